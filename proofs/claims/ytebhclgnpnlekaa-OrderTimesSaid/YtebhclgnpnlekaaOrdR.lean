/- package order's ready, by its walk. No condition. -/
import Derived.Test.YtebhclgnpnlekaaOrdQ
namespace Go.Proofs.Ytebhclgnpnlekaa.Ord
open Go.RowKit Go.Proofs.Ytebhclgnpnlekaa.B Go.Proofs.Ytebhclgnpnlekaa.Cmd Go.Proofs.Ytebhclgnpnlekaa.Agg Go.Proofs.Ytebhclgnpnlekaa.Ent
open Go.Proofs.Ytebhclgnpnlekaa.Pr (arr arr_size arr_one isC)
section
variable {w0 : World} {B mb db : Nat} {v : Value} {X l : List QE} {had : List Int}
/-- What is found of a name. -/
theorem look_cases (l : List QE) (i : Int) : (byS l i = none ∧ (entries l i).getD (.agg noER.cells) = .agg noER.cells ∧ (entries l i).isSome = false) ∨ ∃ x, byS l i = some x ∧ (entries l i).getD (.agg noER.cells) = .agg x.er.cells ∧ (entries l i).isSome = true := by
  unfold entries
  cases h : byS l i with
  | none => exact .inl ⟨rfl, rfl, rfl⟩
  | some x => exact .inr ⟨x, rfl, rfl, rfl⟩
set_option maxHeartbeats 4000000 in
set_option maxRecDepth 100000 in
/-- The closure's body, behind what is found. -/
theorem bad_walk (x : ER) (is : Bool) (e : ER) (c : CmdD) (b1 b2 : Nat) (w : World) (m : Int) (hQ : QU w0 w B mb db v X l had) (h1 : w.heap[b1]? = some (.cells #[.pointer (some ⟨B, 0, none⟩)] 156 (0, 0))) (h2 : w.heap[b2]? = some (.cells e.cells 70 (0, 0)))
    (hc : c.wf) (hm : (had.count c.id : Nat) = m) (hl1 : (entries l c.id).getD (.agg noER.cells) = .agg x.cells) (hl2 : (entries l c.id).isSome = is) (b : Bool) (hb : (!is || (!x.dn || (decide (x.v.t ≤ e.v.t) && decide (m = 0)))) = b) :
    Calls Try.prog 163 #[c.v, .pointer (some ⟨b1, 0, none⟩), .pointer (some ⟨b2, 0, none⟩)] w fun r w' => r = .returned (.bool b) ∧ Below w.heap.size w w' := by
  obtain ⟨g, hg⟩ : ∃ g, w.heap.size = g := ⟨_, rfl⟩
  obtain ⟨W, hW⟩ : ∃ W, w.alloc (.cells (arr c) 45) = W := ⟨_, rfl⟩
  have hB := (Bs.nil w).alloc (arr c) 45
  rw [hW, hg, List.nil_append] at hB
  have HQ := Hold.mk hQ
  have HC := Hold.mk hc.1
  have HLk : Hold (∀ w', Below w.heap.size w w' → (Instr.lookup 160 (.map (some mb)) (.int .i64 c.id) true).run Try.prog w' = .ok (.tuple #[.agg x.cells, .bool is]) w') := ⟨fun w' h => by
    have := (hQ.below h).look c.id hc.1
    rwa [hl1, hl2] at this⟩
  have HLc : Hold (∀ w', Below w.heap.size w w' → (Instr.lookup 161 (.map (some db)) (.int .i64 c.id) false).run Try.prog w' = .ok (.int .i64 m) w') := ⟨fun w' h => by
    have := (hQ.below h).count c.id hc.1
    rwa [hm] at this⟩
  have HK1 : Hold (∀ w', Below w.heap.size w w' → w'.cell? ⟨b1, 0, none⟩ = some (.pointer (some ⟨B, 0, none⟩))) := ⟨fun w' h => by
    rw [cell_of_row w' b1 _ _ _ (0, 0) ((h.block b1 (Array.getElem?_eq_some_iff.1 h1).1).trans h1)]; rfl⟩
  have HK2 : Hold (∀ w', Below w.heap.size w w' → w'.cell? ⟨b2, 17, none⟩ = some (.int .i64 e.v.t)) := ⟨fun w' h => by
    rw [cell_of_row w' b2 _ _ _ (0, 0) ((h.block b2 (Array.getElem?_eq_some_iff.1 h2).1).trans h2)]; rfl⟩
  have HCi : Hold (∀ w', Bs w w' [(g, 45, arr c)] → w'.cell? ⟨g, 0, none⟩ = some (.int .i64 c.id)) := ⟨fun w' h => h.cell 0 rfl 0⟩
  have HB := Hold.mk hb
  clear hb h1 h2 hm hl1 hl2 hQ hc
  unfold arr at hW
  go_enter Try.func163, Try.ntmps163
  go_upto_region 1 with (fail)
  replace hB := hB.drew
  have hS := hB
  refine rg_start (S := fun w' => Bs w w' [(g, 45, arr c)]) 13 #[false, false, false, false, false, false, false, false, false, false, false, false, false] (by kernel_rfl) (by kernel_rfl) (by kernel_rfl) hS ?_
  refine rg_take 0 8 (.load 156 (.tmp 1)) (.pointer (some ⟨B, 0, none⟩)) #[true, false, false, false, false, false, false, false, false, false, false, false, false] (by kernel_rfl) (by rfl) (by kernel_rfl) (by kernel_rfl) (by kernel_rfl) (fun _ _ _ h => h) (.inl ⟨by kernel_rfl, fun w hSw => by have hcell := HK1.out _ hSw.below; go_simp⟩) hS ?_
  simp only [List.setIfInBounds_toArray, List.set_cons_zero, List.set_cons_succ]
  refine rg_take 1 9 (.nilCheck (.tmp 8)) (.pointer (some ⟨B, 0, none⟩)) #[true, true, false, false, false, false, false, false, false, false, false, false, false] (by kernel_rfl) (by rfl) (by kernel_rfl) (by kernel_rfl) (by kernel_rfl) (fun _ _ _ h => h) (.inl ⟨by kernel_rfl, fun _ _ => by go_simp⟩) hS ?_
  simp only [List.setIfInBounds_toArray, List.set_cons_zero, List.set_cons_succ]
  refine rg_take 2 10 (.fieldAddr 163 (.tmp 9) 1) (.pointer (some ⟨B, 1, none⟩)) #[true, true, true, false, false, false, false, false, false, false, false, false, false] (by kernel_rfl) (by rfl) (by kernel_rfl) (by kernel_rfl) (by kernel_rfl) (fun _ _ _ h => h) (.inl ⟨by kernel_rfl, fun _ _ => by go_simp⟩) hS ?_
  simp only [List.setIfInBounds_toArray, List.set_cons_zero, List.set_cons_succ]
  refine rg_take 3 11 (.load 160 (.tmp 10)) (.map (some mb)) #[true, true, true, true, false, false, false, false, false, false, false, false, false] (by kernel_rfl) (by rfl) (by kernel_rfl) (by kernel_rfl) (by kernel_rfl) (fun _ _ _ h => h) (.inl ⟨by kernel_rfl, fun w hSw => by have hcell := (HQ.out.below hSw.below).cells.2.1; go_simp⟩) hS ?_
  simp only [List.setIfInBounds_toArray, List.set_cons_zero, List.set_cons_succ]
  refine rg_take 4 12 (.fieldAddr 45 (.tmp 3) 0) (.pointer (some ⟨g, 0, none⟩)) #[true, true, true, true, true, false, false, false, false, false, false, false, false] (by kernel_rfl) (by rfl) (by kernel_rfl) (by kernel_rfl) (by kernel_rfl) (fun _ _ _ h => h) (.inl ⟨by kernel_rfl, fun _ _ => by go_simp⟩) hS ?_
  simp only [List.setIfInBounds_toArray, List.set_cons_zero, List.set_cons_succ]
  refine rg_take 5 13 (.load 3 (.tmp 12)) (.int .i64 c.id) #[true, true, true, true, true, true, false, false, false, false, false, false, false] (by kernel_rfl) (by rfl) (by kernel_rfl) (by kernel_rfl) (by kernel_rfl) (fun _ _ _ h => h) (.inl ⟨by kernel_rfl, fun w hSw => by have hcell := HCi.out _ hSw; go_simp⟩) hS ?_
  simp only [List.setIfInBounds_toArray, List.set_cons_zero, List.set_cons_succ]
  refine rg_take 6 14 (.lookup 160 (.tmp 11) (.tmp 13) true) (.tuple #[.agg x.cells, .bool is]) #[true, true, true, true, true, true, true, false, false, false, false, false, false] (by kernel_rfl) (by rfl) (by kernel_rfl) (by kernel_rfl) (by kernel_rfl) (fun _ _ _ h => h) (.inl ⟨by kernel_rfl, fun w hSw => by have hcell := HLk.out _ hSw.below; go_simp⟩) hS ?_
  simp only [List.setIfInBounds_toArray, List.set_cons_zero, List.set_cons_succ]
  refine rg_take 7 7 (.move (.tmp 14)) (.tuple #[.agg x.cells, .bool is]) #[true, true, true, true, true, true, true, true, false, false, false, false, false] (by kernel_rfl) (by rfl) (by kernel_rfl) (by kernel_rfl) (by kernel_rfl) (fun _ _ _ h => h) (.inl ⟨by kernel_rfl, fun _ _ => by kernel_rfl⟩) hS ?_
  simp only [List.setIfInBounds_toArray, List.set_cons_zero, List.set_cons_succ]
  refine rg_take 8 15 (.extract (.tmp 7) 0) (.agg x.cells) #[true, true, true, true, true, true, true, true, true, false, false, false, false] (by kernel_rfl) (by rfl) (by kernel_rfl) (by kernel_rfl) (by kernel_rfl) (fun _ _ _ h => h) (.inl ⟨by kernel_rfl, fun _ _ => by go_simp⟩) hS ?_
  simp only [List.setIfInBounds_toArray, List.set_cons_zero, List.set_cons_succ]
  refine rg_take 9 16 (.extract (.tmp 7) 1) (.bool is) #[true, true, true, true, true, true, true, true, true, true, false, false, false] (by kernel_rfl) (by rfl) (by kernel_rfl) (by kernel_rfl) (by kernel_rfl) (fun _ _ _ h => h) (.inl ⟨by kernel_rfl, fun _ _ => by go_simp⟩) hS ?_
  simp only [List.setIfInBounds_toArray, List.set_cons_zero, List.set_cons_succ]
  refine rg_one 10 (some 5) (.alloc 70) #[true, true, true, true, true, true, true, true, true, true, true, false, false] (by kernel_rfl) (by kernel_rfl) (by rfl) (by kernel_rfl) (fun K hK => ?_)
  refine wp_alloc zeroE hB (fun W2 g2 hB => ?_)
  simp only [List.cons_append, List.nil_append] at hB
  have hS : Bs w W2 [(g, 45, arr c)] := hB.sub (fun i => i) (fun i x h => by rcases i with _ | i <;> first | exact h | (simp at h)) (fun i j _ _ h => h)
  simp only [Act.put, List.setIfInBounds_toArray, List.set_cons_zero, List.set_cons_succ]
  refine hK.out _ _ hS ?_
  clear hK K
  refine rg_one 11 none (.store 70 (.tmp 5) (.tmp 15)) #[true, true, true, true, true, true, true, true, true, true, true, true, false] (by kernel_rfl) (by kernel_rfl) (by rfl) (by kernel_rfl) (fun K hK => ?_)
  refine wp_store isE (b := g2) (C' := x.cells) (by kernel_rfl) (by kernel_rfl) hB 1 (by rfl) (ER.size _) (ER.size _) (ER.one _) (fun W3 hB => ?_)
  simp only [List.set] at hB
  have hS : Bs w W3 [(g, 45, arr c)] := hB.sub (fun i => i) (fun i x h => by rcases i with _ | i <;> first | exact h | (simp at h)) (fun i j _ _ h => h)
  simp only [Act.put, List.setIfInBounds_toArray, List.set_cons_zero, List.set_cons_succ]
  refine hK.out _ _ hS ?_
  clear hK K
  refine rg_take 12 6 (.assign (.tmp 16)) (.bool is) #[true, true, true, true, true, true, true, true, true, true, true, true, true] (by kernel_rfl) (by rfl) (by kernel_rfl) (by kernel_rfl) (by kernel_rfl) (fun _ _ _ h => h) (.inl ⟨by kernel_rfl, fun _ _ => by kernel_rfl⟩) hS ?_
  simp only [List.setIfInBounds_toArray, List.set_cons_zero, List.set_cons_succ]
  refine wpAnyH_done (by kernel_rfl) ?_ _
  have hbel := hB.below
  have hc := hB.cell 1 rfl
  have ka := x.all
  have f16 := (hc 16).trans ka.2.2.2.2.2.2.2.2.2.2.2.2.2.2.2.2.1
  have f17 := (hc 17).trans ka.2.2.2.2.2.2.2.2.2.2.2.2.2.2.2.2.2.1
  have fe := HK2.out _ hbel
  have fq := HK1.out _ hbel
  have fd := (HQ.out.below hbel).cells.2.2
  have fi : W3.cell? ⟨g, 0, none⟩ = some (.int .i64 c.id) := hB.cell 0 rfl 0
  have fl : ∀ n, (Instr.lookup 161 (.map (some db)) (.int .i64 c.id) false).run Try.prog (W3.drewN n) = .ok (.int .i64 m) (W3.drewN n) := fun n => HLc.out _ (hbel.trans ((below_drewN _ _).mono hbel.size))
  have HBel := Hold.mk hbel
  obtain ⟨D, hD⟩ : ∃ D, x.dn = D := ⟨_, rfl⟩
  obtain ⟨T2, hT2⟩ : ∃ T, x.v.t = T := ⟨_, rfl⟩
  obtain ⟨T, hT⟩ : ∃ T, e.v.t = T := ⟨_, rfl⟩
  rw [hD] at f16 HB
  rw [hT2] at f17 HB
  rw [hT] at fe HB
  clear hD hT2 hT hc ka hS hbel hW
  cases is
  · have hb1 : b = true := by rw [← HB.out]; rfl
    subst hb1
    go_wp2
    go_quiet (fail)
    go_wp2
    go_ret
    exact ⟨rfl, HBel.out.trans ((below_drewN _ _).mono HBel.out.size)⟩
  · cases D
    · have hb1 : b = true := by rw [← HB.out]; rfl
      subst hb1
      go_wp2
      go_quiet (fail)
      go_wp2
      go_ret
      exact ⟨rfl, HBel.out.trans ((below_drewN _ _).mono HBel.out.size)⟩
    · by_cases hle : T2 ≤ T
      · have hd := decide_eq_true hle
        by_cases h0 : m = 0
        · have hd0 := decide_eq_true h0
          have hb1 : b = true := by rw [← HB.out]; simp [hle, h0]
          subst hb1
          go_wp2
          go_quiet (fail)
          go_wp2
          go_ret
          exact ⟨rfl, HBel.out.trans ((below_drewN _ _).mono HBel.out.size)⟩
        · have hd0 := decide_eq_false h0
          have hb1 : b = false := by rw [← HB.out]; simp [hle, h0]
          subst hb1
          go_wp2
          go_quiet (fail)
          go_wp2
          go_ret
          exact ⟨by simp [h0], HBel.out.trans ((below_drewN _ _).mono HBel.out.size)⟩
      · have hd := decide_eq_false hle
        have hb1 : b = false := by rw [← HB.out]; simp [hle]
        subst hb1
        go_wp2
        go_quiet (fail)
        go_wp2
        go_ret
        exact ⟨rfl, HBel.out.trans ((below_drewN _ _).mono HBel.out.size)⟩
/-- The closure: does a command stand in the way? -/
theorem bad_calls (e : QE) (c : CmdD) (b1 b2 : Nat) (w : World) (hQ : QU w0 w B mb db v X l had) (h1 : w.heap[b1]? = some (.cells #[.pointer (some ⟨B, 0, none⟩)] 156 (0, 0))) (h2 : w.heap[b2]? = some (.cells e.er.cells 70 (0, 0))) (hc : c.wf) (b : Bool) (hb : bad l had e c = b) :
    Calls Try.prog 163 #[c.v, .pointer (some ⟨b1, 0, none⟩), .pointer (some ⟨b2, 0, none⟩)] w fun r w' => r = .returned (.bool b) ∧ Below w.heap.size w w' := by
  have hz : decide (((had.count c.id : Nat) : Int) = 0) = !(had.contains c.id) := count_zero had c.id
  rcases look_cases l c.id with ⟨e1, e2, e3⟩ | ⟨x, e1, e2, e3⟩
  · exact bad_walk noER false e.er c b1 b2 w _ hQ h1 h2 hc rfl e2 e3 b (by rw [← hb]; unfold bad; rw [e1]; rfl)
  · exact bad_walk x.er true e.er c b1 b2 w _ hQ h1 h2 hc rfl e2 e3 b (by rw [← hb, hz]; unfold bad; rw [e1]; rfl)
set_option maxHeartbeats 2000000 in
theorem index_bad (A : Option Addr) (k : Nat) (e : QE) (ps : List CmdD) (b1 b2 : Nat) (I : Nat → Prop) (w : World) (hQ : QU w0 w B mb db v X l had) (h1 : w.heap[b1]? = some (.cells #[.pointer (some ⟨B, 0, none⟩)] 156 (0, 0))) (h2 : w.heap[b2]? = some (.cells e.er.cells 70 (0, 0))) (h : Rep.Row cmdRep I w A ps) :
    Calls Try.prog 94 #[.slice A ps.length k, .func (.func 163) #[] #[.pointer (some ⟨b1, 0, none⟩), .pointer (some ⟨b2, 0, none⟩)]] w fun r w' => r = .returned (.int .i64 (firstOf (bad l had e) ps)) ∧ Hold (Below w.heap.size w w') := by
  have H := Hold.mk h
  have hm := h.len_le
  have HC : Hold (∀ W, Below w.heap.size w W → ∀ c b, c.wf → bad l had e c = b → Calls Try.prog 163 #[c.v, .pointer (some ⟨b1, 0, none⟩), .pointer (some ⟨b2, 0, none⟩)] W fun r w' => r = .returned (.bool b) ∧ Below W.heap.size W w') :=
    ⟨fun W hW c b hc hb => bad_calls e c b1 b2 W (hQ.below hW) ((hW.block b1 (Array.getElem?_eq_some_iff.1 h1).1).trans h1) ((hW.block b2 (Array.getElem?_eq_some_iff.1 h2).1).trans h2) hc b hb⟩
  clear h h1 h2 hQ
  go_enter Try.func94, Try.ntmps94
  go_wp2
  go_loopw [8] (fun s wr => ∃ i : Nat, i ≤ ps.length ∧ s = .int .i64 (i : Int) ∧ Hold (∀ x ∈ ps.take i, bad l had e x = false) ∧ Hold (Below w.heap.size w wr)) (fun s _ => ps.length - (intOf s).toNat)
  case atStart => exact ⟨0, by omega, rfl, ⟨by simp⟩, ⟨Below.refl _ _⟩⟩
  case round =>
    obtain ⟨i, hi, rfl, HA, HB⟩ := hrel
    by_cases hlt : i < ps.length
    · have l1 : (i : Int) < (ps.length : Int) := by omega
      obtain ⟨ad, p, rfl, hp, _, ⟨c0, c1, c2, c3, c4, c5, c6, hw⟩⟩ := row_cmd (H.out.below HB.out) i hlt
      obtain ⟨x, hx⟩ : ∃ x, ps[i] = x := ⟨_, rfl⟩
      rw [hx] at c0 c1 c2 c3 c4 c5 c6 hw
      have HX := Hold.mk hx
      have HW := Hold.mk hw
      clear hx hw
      cases hb : bad l had e x
      · have HBx := Hold.mk hb
        clear hb
        go_wp2_with fail
        refine (HC.out _ HB.out x false HW.out HBx.out).mono ?_
        rintro r w1 ⟨rfl, hb1⟩
        have HB1 := Hold.mk (HB.out.trans (hb1.mono HB.out.size))
        have HA1 : Hold (∀ x ∈ ps.take (i + 1), bad l had e x = false) := ⟨mem_take_succ hlt HA.out (by rw [HX.out, HBx.out])⟩
        clear hb1
        go_wp2
        exact ⟨⟨i + 1, by omega, by go_num, HA1, HB1⟩, by simp [intOf]; omega⟩
      · have HBx := Hold.mk hb
        clear hb
        go_wp2_with fail
        refine (HC.out _ HB.out x true HW.out HBx.out).mono ?_
        rintro r w1 ⟨rfl, hb1⟩
        have HB1 := Hold.mk (HB.out.trans (hb1.mono HB.out.size))
        clear hb1
        go_wp2
        go_ret
        exact ⟨by rw [firstOf_at hlt HA.out (by rw [HX.out, HBx.out])]; rfl, HB1⟩
    · obtain rfl : i = ps.length := by omega
      have HN : Hold (firstOf (bad l had e) ps = -1) := ⟨firstOf_none (by have := HA.out; rw [List.take_length] at this; exact this)⟩
      go_wp2
      go_ret
      exact ⟨by rw [HN.out]; rfl, HB⟩
theorem contains_bad (A : Option Addr) (k : Nat) (e : QE) (ps : List CmdD) (b1 b2 : Nat) (I : Nat → Prop) (w : World) (hQ : QU w0 w B mb db v X l had) (h1 : w.heap[b1]? = some (.cells #[.pointer (some ⟨B, 0, none⟩)] 156 (0, 0))) (h2 : w.heap[b2]? = some (.cells e.er.cells 70 (0, 0))) (h : Rep.Row cmdRep I w A ps) (d : Bool) (hd : ps.any (bad l had e) = d) :
    Calls Try.prog 134 #[.slice A ps.length k, .func (.func 163) #[] #[.pointer (some ⟨b1, 0, none⟩), .pointer (some ⟨b2, 0, none⟩)]] w fun r w' => r = .returned (.bool d) ∧ Hold (Below w.heap.size w w') := by
  obtain ⟨n, hn⟩ : ∃ n, firstOf (bad l had e) ps = n := ⟨_, rfl⟩
  have HE : Hold (decide (0 ≤ n) = d) := ⟨by rw [← hn, firstOf_ge]; exact hd⟩
  have HI := Hold.mk (index_bad A k e ps b1 b2 I w hQ h1 h2 h)
  rw [hn] at HI
  clear h hn h1 h2 hQ hd
  go_enter Try.func134, Try.ntmps134
  go_wp2_with fail
  refine HI.out.mono ?_
  rintro r w1 ⟨rfl, HB1⟩
  go_wp2
  go_ret
  exact ⟨by rw [← HE.out]; rfl, HB1⟩
end
end Go.Proofs.Ytebhclgnpnlekaa.Ord
