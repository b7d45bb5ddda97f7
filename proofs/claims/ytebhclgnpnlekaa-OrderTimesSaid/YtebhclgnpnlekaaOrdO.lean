/- package order's open, by its walk. No condition. -/
import Derived.Test.YtebhclgnpnlekaaOrdP
import Derived.Test.YtebhclgnpnlekaaOrdR
namespace Go.Proofs.Ytebhclgnpnlekaa.Ord
open Go.RowKit Go.Proofs.Ytebhclgnpnlekaa.B Go.Proofs.Ytebhclgnpnlekaa.Cmd Go.Proofs.Ytebhclgnpnlekaa.Agg Go.Proofs.Ytebhclgnpnlekaa.Ent
theorem gateM {P : Program} {ops : Array Oper} {rest : List Oper} {a : Act} {w : World} {Q : Exit → Act → World → Prop} {dst : Option Tmp} {ty : TypeId} {pos : String} {after : Array Edge} {m x y : Operand} (T : TypeId) (h : wpList P ops Q (⟨dst, .mapUpdate T m x y, ty, pos, after, none⟩ :: rest) a w) : wpList P ops Q (⟨dst, .mapUpdate T m x y, ty, pos, after, none⟩ :: rest) a w := h
theorem cell_heap {w : World} {b : Nat} {C : Array Value} {T : TypeId} (h : w.heap[b]? = some (.cells C T (0, 0))) (k : Nat) : w.cell? ⟨b, k, none⟩ = C[k]? := cell_of_row w b k C T (0, 0) h
set_option maxHeartbeats 8000000 in
set_option maxRecDepth 100000 in
theorem open_calls (A A' : Option Addr) (c c' : Nat) (l : List QE) (had : List Int) (I J : Nat → Prop) (w : World) (h : Rep.Row qeRep I w A l) (h' : Rep.Row (Rep.int .i64) J w A' had) (hl : l.length ≤ 100000) (hh : had.length ≤ 100000) :
    Calls Try.prog 120 #[.slice A l.length c, .slice A' had.length c'] w fun r w' => ∃ B mb db v, r = .returned (.pointer (some ⟨B, 0, none⟩)) ∧ Hold (QU w w' B mb db v (dd l) l had) := by
  have H := Hold.mk h
  have H' := Hold.mk h'
  have hm := h.len_le
  have hm' := h'.len_le
  have HL := Hold.mk hl
  obtain ⟨mb, hmb⟩ : ∃ g, w.heap.size = g := ⟨_, rfl⟩
  obtain ⟨db, hdb⟩ : ∃ g, mb + 1 = g := ⟨_, rfl⟩
  obtain ⟨B, hB⟩ : ∃ g, db + 1 = g := ⟨_, rfl⟩
  obtain ⟨W, hW⟩ : ∃ W, ((w.alloc (.map #[] 0)).alloc (.map #[] 0)).alloc (.cells #[.slice none 0 0, .map (some mb), .map (some db)] 163) = W := ⟨_, rfl⟩
  have hQ0 : QU w W B mb db (.slice none 0 0) [] [] [] := by
    have m1 := MapI.MapAt.made w Try.prog 3
    have m2 := MapI.MapAt.made (w.alloc (.map #[] 0)) Try.prog 3
    have s1 : (w.alloc (.map #[] 0)).heap.size = db := by simp [hmb, hdb]
    rw [hmb] at m1
    rw [s1] at m2
    refine ⟨?_, ⟨Rep.Own.nil _ _ _ _ _, ?_⟩, ?_, ?_, by omega, by omega, by omega, ⟨by omega, by omega, by omega⟩, fun k hk => by cases hk⟩
    · rw [← hW]
      have s2 : ((w.alloc (.map #[] 0)).alloc (.map #[] 0)).heap.size = B := by simp [hmb, hdb, hB]
      rw [← s2]
      exact Array.getElem?_push_size ..
    · rw [← hW]
      exact ((((Below.refl _ _).alloc (Nat.le_refl _) _).alloc (by simp) _).alloc (by simp; omega) _)
    · rw [← hW]
      exact (m1.alloc _).alloc _
    · rw [← hW]
      exact m2.alloc _
  have HQ0 := Hold.mk hQ0
  clear h h' hQ0 hl
  have hmm := @run_makeMap Try.prog
  go_enter Try.func120, Try.ntmps120
  go_wp2
  clear hmm hmb hdb hB hW
  go_loopw [18] (fun s wr => ∃ i : Nat, i ≤ l.length ∧ s = .int .i64 (i : Int) ∧ ∃ v, Hold (QU w wr B mb db v (dd (l.take i)) (l.take i) [])) (fun s _ => l.length - (intOf s).toNat)
  case atStart => exact ⟨0, by omega, rfl, _, HQ0⟩
  case round =>
    obtain ⟨i, hi, rfl, v, HQ⟩ := hrel
    by_cases hlt : i < l.length
    · have l1 : (i : Int) < (l.length : Int) := by omega
      have hF0' := row_qe H.out i hlt
      obtain ⟨ad, p, rfl, hp, _, hQx', _⟩ := row_qe (H.out.below HQ.out.bel) i hlt
      obtain ⟨xx, hx⟩ : ∃ x, l[i] = x := ⟨_, rfl⟩
      rw [hx] at hQx' hF0'
      have hF0 : QF (fun k => k < w.heap.size) w xx := by
        obtain ⟨_, _, _, _, _, _, hF⟩ := hF0'
        exact hF.move fun k _ hlt => ⟨hlt, rfl⟩
      have hT : l.take (i + 1) = l.take i ++ [xx] := by rw [List.take_succ_eq_append_getElem hlt, hx]
      have hLl : (l.take i).length ≤ 100000 := by have := HL.out; rw [List.length_take]; omega
      obtain ⟨e, pe⟩ := xx
      have hQx : ∀ (j : Nat) (u : Value), e.cells[j]? = some u → wr.cell? (p.add j) = some u := hQx'
      obtain ⟨L, hL⟩ : ∃ L, l.take i = L := ⟨_, rfl⟩
      rw [hL] at hT HQ hLl
      have hXl := dd_len L
      have hdd := dd_has L ⟨e, pe⟩
      obtain ⟨X0, hX0⟩ : ∃ X, dd L = X := ⟨_, rfl⟩
      rw [hX0] at HQ hXl hdd
      have HT := Hold.mk hT
      have HN : Hold (L.length < maxLen) := ⟨by simp only [maxLen]; omega⟩
      have HLn : Hold ((X0.length + 1) * 192 ≤ 140737488355328) := ⟨by omega⟩
      have HC : Hold ((Lit.int .i64 e.c.id).wf = true) := ⟨hF0.c.1⟩
      have HF0 := Hold.mk hF0
      have HE0 : Hold (e.cells[0]? = some (.int .i64 e.c.id)) := ⟨rfl⟩
      have hB0 := Bs.nil wr
      have hlk : (byS L e.c.id = none ∧ (entries L e.c.id).getD (.agg noER.cells) = .agg noER.cells ∧ (entries L e.c.id).isSome = false) ∨ ∃ x, byS L e.c.id = some x ∧ (entries L e.c.id).getD (.agg noER.cells) = .agg x.er.cells ∧ (entries L e.c.id).isSome = true := look_cases L e.c.id
      clear hQx' hF0' hF0 hT hL hX0 hXl hLl hx
      rcases hlk with ⟨e1, e2, e3⟩ | ⟨x0, e1, e2, e3⟩
      · have HD : Hold (dd (L ++ [⟨e, pe⟩]) = X0 ++ [⟨e, pe⟩]) := ⟨by rw [hdd]; simp [QE.id, e1]⟩
        have HEn : Hold ((fun j => if j = e.c.id then some (Value.agg e.cells) else entries L j) = entries (L ++ [⟨e, pe⟩])) := ⟨entries_add (l := L) (e := ⟨e, pe⟩) (by show (byS L e.c.id).isSome = false; rw [e1]; rfl)⟩
        obtain ⟨x, hx⟩ : ∃ x, noER = x := ⟨_, rfl⟩
        have HLk : Hold (∀ w', Below wr.heap.size wr w' → (Instr.lookup 160 (.map (some mb)) (.int .i64 e.c.id) true).run Try.prog w' = .ok (.tuple #[.agg x.cells, .bool false]) w') := ⟨fun w' h => by
          have := (HQ.out.below h).look e.c.id HC.out
          rwa [e2, e3, hx] at this⟩
        clear e1 e2 e3 hdd hx
        go_upto_region 5 with (first
          | (with_reducible refine gateA 70 ?_; refine wpl_alloc zeroE hB0 rfl ?_; intro W2 g1 hB; simp only [List.nil_append] at hB)
          | (with_reducible refine gateS 70 ?_; refine wpl_store (C' := e.cells) isE rfl rfl hB 0 rfl (ER.size _) (ER.size _) (ER.one _) rfl ?_; intro W3 hB; simp only [List.set] at hB)
          | (with_reducible refine gateL 70 ?_; refine wpl_loadO isE rfl (ER.size e) hQx rfl ?_))
        simp only [Act.put, List.setIfInBounds_toArray, List.set_cons_zero, List.set_cons_succ]
        have HCi : Hold (∀ w', Bs wr w' [(g1, 70, e.cells)] → w'.cell? ⟨g1, 0, none⟩ = some (.int .i64 e.c.id)) := ⟨fun w' h => h.cell 0 rfl 0⟩
        replace hB := hB.drew
        have hS := hB
        refine rg_start (S := fun w' => Bs wr w' [(g1, 70, e.cells)]) 14 #[false, false, false, false, false, false, false, false, false, false, false, false, false, false] (by kernel_rfl) (by kernel_rfl) (by kernel_rfl) hS ?_
        refine rg_take 0 23 (.move (.tmp 5)) (.pointer (some ⟨B, 0, none⟩)) #[true, false, false, false, false, false, false, false, false, false, false, false, false, false] (by kernel_rfl) (by rfl) (by kernel_rfl) (by kernel_rfl) (by kernel_rfl) (fun _ _ _ h => h) (.inl ⟨by kernel_rfl, fun _ _ => by kernel_rfl⟩) hS ?_
        simp only [List.setIfInBounds_toArray, List.set_cons_zero, List.set_cons_succ]
        refine rg_take 1 24 (.nilCheck (.tmp 23)) (.pointer (some ⟨B, 0, none⟩)) #[true, true, false, false, false, false, false, false, false, false, false, false, false, false] (by kernel_rfl) (by rfl) (by kernel_rfl) (by kernel_rfl) (by kernel_rfl) (fun _ _ _ h => h) (.inl ⟨by kernel_rfl, fun _ _ => by go_simp⟩) hS ?_
        simp only [List.setIfInBounds_toArray, List.set_cons_zero, List.set_cons_succ]
        refine rg_take 2 25 (.fieldAddr 163 (.tmp 24) 1) (.pointer (some ⟨B, 1, none⟩)) #[true, true, true, false, false, false, false, false, false, false, false, false, false, false] (by kernel_rfl) (by rfl) (by kernel_rfl) (by kernel_rfl) (by kernel_rfl) (fun _ _ _ h => h) (.inl ⟨by kernel_rfl, fun _ _ => by go_simp⟩) hS ?_
        simp only [List.setIfInBounds_toArray, List.set_cons_zero, List.set_cons_succ]
        refine rg_take 3 26 (.load 160 (.tmp 25)) (.map (some mb)) #[true, true, true, true, false, false, false, false, false, false, false, false, false, false] (by kernel_rfl) (by rfl) (by kernel_rfl) (by kernel_rfl) (by kernel_rfl) (fun _ _ _ h => h) (.inl ⟨by kernel_rfl, fun w hSw => by have hcell := (HQ.out.below hSw.below).cells.2.1; go_simp⟩) hS ?_
        simp only [List.setIfInBounds_toArray, List.set_cons_zero, List.set_cons_succ]
        refine rg_take 4 27 (.fieldAddr 70 (.tmp 7) 0) (.pointer (some ⟨g1, 0, none⟩)) #[true, true, true, true, true, false, false, false, false, false, false, false, false, false] (by kernel_rfl) (by rfl) (by kernel_rfl) (by kernel_rfl) (by kernel_rfl) (fun _ _ _ h => h) (.inl ⟨by kernel_rfl, fun _ _ => by go_simp⟩) hS ?_
        simp only [List.setIfInBounds_toArray, List.set_cons_zero, List.set_cons_succ]
        refine rg_take 5 28 (.fieldAddr 45 (.tmp 27) 0) (.pointer (some ⟨g1, 0, none⟩)) #[true, true, true, true, true, true, false, false, false, false, false, false, false, false] (by kernel_rfl) (by rfl) (by kernel_rfl) (by kernel_rfl) (by kernel_rfl) (fun _ _ _ h => h) (.inl ⟨by kernel_rfl, fun _ _ => by go_simp⟩) hS ?_
        simp only [List.setIfInBounds_toArray, List.set_cons_zero, List.set_cons_succ]
        refine rg_take 6 29 (.load 3 (.tmp 28)) (.int .i64 e.c.id) #[true, true, true, true, true, true, true, false, false, false, false, false, false, false] (by kernel_rfl) (by rfl) (by kernel_rfl) (by kernel_rfl) (by kernel_rfl) (fun _ _ _ h => h) (.inl ⟨by kernel_rfl, fun w hSw => by have hcell := HCi.out _ hSw; go_simp⟩) hS ?_
        simp only [List.setIfInBounds_toArray, List.set_cons_zero, List.set_cons_succ]
        refine rg_take 7 30 (.lookup 160 (.tmp 26) (.tmp 29) true) (.tuple #[.agg x.cells, .bool false]) #[true, true, true, true, true, true, true, true, false, false, false, false, false, false] (by kernel_rfl) (by rfl) (by kernel_rfl) (by kernel_rfl) (by kernel_rfl) (fun _ _ _ h => h) (.inl ⟨by kernel_rfl, fun w hSw => by have hcell := HLk.out _ hSw.below; go_simp⟩) hS ?_
        simp only [List.setIfInBounds_toArray, List.set_cons_zero, List.set_cons_succ]
        refine rg_take 8 22 (.move (.tmp 30)) (.tuple #[.agg x.cells, .bool false]) #[true, true, true, true, true, true, true, true, true, false, false, false, false, false] (by kernel_rfl) (by rfl) (by kernel_rfl) (by kernel_rfl) (by kernel_rfl) (fun _ _ _ h => h) (.inl ⟨by kernel_rfl, fun _ _ => by kernel_rfl⟩) hS ?_
        simp only [List.setIfInBounds_toArray, List.set_cons_zero, List.set_cons_succ]
        refine rg_take 9 31 (.extract (.tmp 22) 0) (.agg x.cells) #[true, true, true, true, true, true, true, true, true, true, false, false, false, false] (by kernel_rfl) (by rfl) (by kernel_rfl) (by kernel_rfl) (by kernel_rfl) (fun _ _ _ h => h) (.inl ⟨by kernel_rfl, fun _ _ => by go_simp⟩) hS ?_
        simp only [List.setIfInBounds_toArray, List.set_cons_zero, List.set_cons_succ]
        refine rg_take 10 32 (.extract (.tmp 22) 1) (.bool false) #[true, true, true, true, true, true, true, true, true, true, true, false, false, false] (by kernel_rfl) (by rfl) (by kernel_rfl) (by kernel_rfl) (by kernel_rfl) (fun _ _ _ h => h) (.inl ⟨by kernel_rfl, fun _ _ => by go_simp⟩) hS ?_
        simp only [List.setIfInBounds_toArray, List.set_cons_zero, List.set_cons_succ]
        refine rg_one 11 (some 8) (.alloc 70) #[true, true, true, true, true, true, true, true, true, true, true, true, false, false] (by kernel_rfl) (by kernel_rfl) (by rfl) (by kernel_rfl) (fun K hK => ?_)
        refine wp_alloc zeroE hB (fun W4 g2 hB => ?_)
        simp only [List.cons_append, List.nil_append] at hB
        have hS : Bs wr W4 [(g1, 70, e.cells)] := hB.sub (fun i => i) (fun i x h => by rcases i with _ | i <;> first | exact h | (simp at h)) (fun i j _ _ h => h)
        simp only [Act.put, List.setIfInBounds_toArray, List.set_cons_zero, List.set_cons_succ]
        refine hK.out _ _ hS ?_
        clear hK K
        refine rg_one 12 none (.store 70 (.tmp 8) (.tmp 31)) #[true, true, true, true, true, true, true, true, true, true, true, true, true, false] (by kernel_rfl) (by kernel_rfl) (by rfl) (by kernel_rfl) (fun K hK => ?_)
        refine wp_store isE (b := g2) (C' := x.cells) (by kernel_rfl) (by kernel_rfl) hB 1 (by rfl) (ER.size _) (ER.size _) (ER.one _) (fun W5 hB => ?_)
        simp only [List.set] at hB
        have hS : Bs wr W5 [(g1, 70, e.cells)] := hB.sub (fun i => i) (fun i x h => by rcases i with _ | i <;> first | exact h | (simp at h)) (fun i j _ _ h => h)
        simp only [Act.put, List.setIfInBounds_toArray, List.set_cons_zero, List.set_cons_succ]
        refine hK.out _ _ hS ?_
        clear hK K
        refine rg_take 13 9 (.assign (.tmp 32)) (.bool false) #[true, true, true, true, true, true, true, true, true, true, true, true, true, true] (by kernel_rfl) (by rfl) (by kernel_rfl) (by kernel_rfl) (by kernel_rfl) (fun _ _ _ h => h) (.inl ⟨by kernel_rfl, fun _ _ => by kernel_rfl⟩) hS ?_
        simp only [List.setIfInBounds_toArray, List.set_cons_zero, List.set_cons_succ]
        refine wpAnyH_done (by kernel_rfl) ?_ _
        have HQ5 := Hold.mk (HQ.out.below hB.below).drew
        have HG1 : Hold (g1 < W5.drew.heap.size ∧ ¬ g1 = mb ∧ ¬ v.ownBlock = some g1 ∧ g1 ≠ B) := ⟨by
          have h1 := (hB.at_ 0 _ _ _ rfl).2
          have h2 := HQ.out.by_.lt
          have h3 := HQ.out.lt
          refine ⟨hB.lt 0 rfl, by omega, fun h => ?_, by omega⟩
          have := (HQ.out.own.own.block_lt g1 h).2
          omega⟩
        have hS : W5.drew.heap[g1]? = some (.cells e.cells 70 (0, 0)) ∧ W5.drew.heap[B]? = some (.cells #[v, .map (some mb), .map (some db)] 163 (0, 0)) := ⟨(hB.drew.at_ 0 _ _ _ rfl).1, HQ5.out.blk⟩
        clear hB HLk HCi
        go_upto_region 7 with (fail)
        refine rg_start (S := fun w' => w'.heap[g1]? = some (.cells e.cells 70 (0, 0)) ∧ w'.heap[B]? = some (.cells #[v, .map (some mb), .map (some db)] 163 (0, 0))) 9 #[false, false, false, false, false, false, false, false, false] (by kernel_rfl) (by kernel_rfl) (by kernel_rfl) hS ?_
        refine rg_take 0 35 (.move (.tmp 5)) (.pointer (some ⟨B, 0, none⟩)) #[true, false, false, false, false, false, false, false, false] (by kernel_rfl) (by rfl) (by kernel_rfl) (by kernel_rfl) (by kernel_rfl) (fun _ _ _ h => h) (.inl ⟨by kernel_rfl, fun _ _ => by kernel_rfl⟩) hS ?_
        simp only [List.setIfInBounds_toArray, List.set_cons_zero, List.set_cons_succ]
        refine rg_take 1 36 (.nilCheck (.tmp 35)) (.pointer (some ⟨B, 0, none⟩)) #[true, true, false, false, false, false, false, false, false] (by kernel_rfl) (by rfl) (by kernel_rfl) (by kernel_rfl) (by kernel_rfl) (fun _ _ _ h => h) (.inl ⟨by kernel_rfl, fun _ _ => by go_simp⟩) hS ?_
        simp only [List.setIfInBounds_toArray, List.set_cons_zero, List.set_cons_succ]
        refine rg_take 2 37 (.fieldAddr 163 (.tmp 36) 1) (.pointer (some ⟨B, 1, none⟩)) #[true, true, true, false, false, false, false, false, false] (by kernel_rfl) (by rfl) (by kernel_rfl) (by kernel_rfl) (by kernel_rfl) (fun _ _ _ h => h) (.inl ⟨by kernel_rfl, fun _ _ => by go_simp⟩) hS ?_
        simp only [List.setIfInBounds_toArray, List.set_cons_zero, List.set_cons_succ]
        refine rg_take 3 38 (.load 160 (.tmp 37)) (.map (some mb)) #[true, true, true, true, false, false, false, false, false] (by kernel_rfl) (by rfl) (by kernel_rfl) (by kernel_rfl) (by kernel_rfl) (fun _ _ _ h => h) (.inl ⟨by kernel_rfl, fun w hSw => by have hcell := cell_heap hSw.2 1; go_simp⟩) hS ?_
        simp only [List.setIfInBounds_toArray, List.set_cons_zero, List.set_cons_succ]
        refine rg_take 4 39 (.fieldAddr 70 (.tmp 7) 0) (.pointer (some ⟨g1, 0, none⟩)) #[true, true, true, true, true, false, false, false, false] (by kernel_rfl) (by rfl) (by kernel_rfl) (by kernel_rfl) (by kernel_rfl) (fun _ _ _ h => h) (.inl ⟨by kernel_rfl, fun _ _ => by go_simp⟩) hS ?_
        simp only [List.setIfInBounds_toArray, List.set_cons_zero, List.set_cons_succ]
        refine rg_take 5 40 (.fieldAddr 45 (.tmp 39) 0) (.pointer (some ⟨g1, 0, none⟩)) #[true, true, true, true, true, true, false, false, false] (by kernel_rfl) (by rfl) (by kernel_rfl) (by kernel_rfl) (by kernel_rfl) (fun _ _ _ h => h) (.inl ⟨by kernel_rfl, fun _ _ => by go_simp⟩) hS ?_
        simp only [List.setIfInBounds_toArray, List.set_cons_zero, List.set_cons_succ]
        refine rg_take 6 41 (.load 3 (.tmp 40)) (.int .i64 e.c.id) #[true, true, true, true, true, true, true, false, false] (by kernel_rfl) (by rfl) (by kernel_rfl) (by kernel_rfl) (by kernel_rfl) (fun _ _ _ h => h) (.inl ⟨by kernel_rfl, fun w hSw => by have hcell := (cell_heap hSw.1 0).trans HE0.out; go_simp⟩) hS ?_
        simp only [List.setIfInBounds_toArray, List.set_cons_zero, List.set_cons_succ]
        refine rg_take 7 42 (.load 70 (.tmp 7)) (.agg e.cells) #[true, true, true, true, true, true, true, true, false] (by kernel_rfl) (by rfl) (by kernel_rfl) (by kernel_rfl) (by kernel_rfl) (fun _ _ _ h => h) (ylh isE (by kernel_rfl) (fun _ h => h.1) (ER.size _) (by kernel_rfl)) hS ?_
        simp only [List.setIfInBounds_toArray, List.set_cons_zero, List.set_cons_succ]
        refine rg_one 8 none (.mapUpdate 160 (.tmp 38) (.tmp 41) (.tmp 42)) #[true, true, true, true, true, true, true, true, true] (by kernel_rfl) (by kernel_rfl) (by rfl) (by kernel_rfl) (fun K hK => ?_)
        refine wp_update (by kernel_rfl) e.c.id (.agg e.cells) (by kernel_rfl) (by kernel_rfl) HQ5.out.by_ Try.underlying3 Try.underlying160 HN.out HC.out (fun W6 hm6 hf6 => ?_)
        rw [HEn.out] at hm6
        have HQ6 := Hold.mk (HQ5.out.put ⟨e, pe⟩ hf6 hm6)
        have hS : W6.heap[g1]? = some (.cells e.cells 70 (0, 0)) ∧ W6.heap[B]? = some (.cells #[v, .map (some mb), .map (some db)] 163 (0, 0)) := ⟨(hf6.block g1 HG1.out.1 HG1.out.2.1).trans hS.1, HQ6.out.blk⟩
        have HF6 := Hold.mk hf6
        simp only [Act.put, List.setIfInBounds_toArray, List.set_cons_zero, List.set_cons_succ]
        refine hK.out _ _ hS ?_
        clear hK K
        refine wpAnyH_done (by kernel_rfl) ?_ _
        replace HQ6 := Hold.mk HQ6.out.drew
        have HG6 : Hold (g1 < W6.drew.heap.size) := ⟨(Array.getElem?_eq_some_iff.1 hS.1).1⟩
        have HG8 : Hold (W6.drew.heap[g1]? = some (.cells e.cells 70 (0, 0))) := ⟨hS.1⟩
        obtain ⟨g3, hg3⟩ : ∃ g, W6.drew.heap.size = g := ⟨_, rfl⟩
        have HG3 := Hold.mk hg3
        have HFe : Hold (QF (fun k => k < w.heap.size) W6.drew ⟨e, pe⟩) := ⟨HF0.out.below HQ6.out.bel⟩
        have HJ : Hold (∀ k, k < w.heap.size → k < W6.drew.heap.size → k < w.heap.size ∧ some k ≠ v.ownBlock) := ⟨fun k hk _ => ⟨hk, fun h => by have := (HQ6.out.own.own.block_lt k h.symm).1; omega⟩⟩
        have HK7 : Hold ((W6.alloc (.cells e.cells 70)).cell? ⟨B, 0, none⟩ = some v) := ⟨(World.cell?_of_block (Below.heap_alloc W6 _ B HQ6.out.lt)).trans (by have := HQ6.out.cells.1; simpa using this)⟩
        replace hS := hS.1
        clear hg3
        go_upto_region 8 with (fail)
        refine rg_start (S := fun w' => w'.heap[g1]? = some (.cells e.cells 70 (0, 0))) 11 #[false, false, false, false, false, false, false, false, false, false, false] (by kernel_rfl) (by kernel_rfl) (by kernel_rfl) hS ?_
        refine rg_take 0 43 (.move (.tmp 5)) (.pointer (some ⟨B, 0, none⟩)) #[true, false, false, false, false, false, false, false, false, false, false] (by kernel_rfl) (by rfl) (by kernel_rfl) (by kernel_rfl) (by kernel_rfl) (fun _ _ _ h => h) (.inl ⟨by kernel_rfl, fun _ _ => by kernel_rfl⟩) hS ?_
        simp only [List.setIfInBounds_toArray, List.set_cons_zero, List.set_cons_succ]
        refine rg_take 1 44 (.move (.tmp 5)) (.pointer (some ⟨B, 0, none⟩)) #[true, true, false, false, false, false, false, false, false, false, false] (by kernel_rfl) (by rfl) (by kernel_rfl) (by kernel_rfl) (by kernel_rfl) (fun _ _ _ h => h) (.inl ⟨by kernel_rfl, fun _ _ => by kernel_rfl⟩) hS ?_
        simp only [List.setIfInBounds_toArray, List.set_cons_zero, List.set_cons_succ]
        refine rg_take 2 45 (.nilCheck (.tmp 44)) (.pointer (some ⟨B, 0, none⟩)) #[true, true, true, false, false, false, false, false, false, false, false] (by kernel_rfl) (by rfl) (by kernel_rfl) (by kernel_rfl) (by kernel_rfl) (fun _ _ _ h => h) (.inl ⟨by kernel_rfl, fun _ _ => by go_simp⟩) hS ?_
        simp only [List.setIfInBounds_toArray, List.set_cons_zero, List.set_cons_succ]
        refine rg_take 3 46 (.fieldAddr 163 (.tmp 45) 0) (.pointer (some ⟨B, 0, none⟩)) #[true, true, true, true, false, false, false, false, false, false, false] (by kernel_rfl) (by rfl) (by kernel_rfl) (by kernel_rfl) (by kernel_rfl) (fun _ _ _ h => h) (.inl ⟨by kernel_rfl, fun _ _ => by go_simp⟩) hS ?_
        simp only [List.setIfInBounds_toArray, List.set_cons_zero, List.set_cons_succ]
        refine rg_take 5 48 (.load 70 (.tmp 7)) (.agg e.cells) #[true, true, true, true, false, true, false, false, false, false, false] (by kernel_rfl) (by rfl) (by kernel_rfl) (by kernel_rfl) (by kernel_rfl) (fun _ _ _ h => h) (ylh isE (by kernel_rfl) (fun _ h => h) (ER.size _) (by kernel_rfl)) hS ?_
        simp only [List.setIfInBounds_toArray, List.set_cons_zero, List.set_cons_succ]
        refine wpAnyH_ready (rs := [4, 6]) (by kernel_rfl) (by simp) ?_
        refine rg_cons 4 (some 47) (.load 90 (.tmp 46)) #[true, true, true, true, true, true, false, false, false, false, false] (by kernel_rfl) (by rfl) (by kernel_rfl) (fun K hK => ?_) (rg_cons 6 (some 49) (.buildSlice 90 1 #[(0, (.tmp 48))]) #[true, true, true, true, false, true, true, false, false, false, false] (by kernel_rfl) (by rfl) (by kernel_rfl) (fun K hK => ?_) AllReadyH.nil)
        · refine wp_value (v := v) (w' := W6.drew) (by have hcell := HQ6.out.cells.1; go_simp) ?_
          simp only [Act.put, List.setIfInBounds_toArray, List.set_cons_zero, List.set_cons_succ]
          refine hK.out _ _ hS ?_
          clear hK K
          refine rg_one 6 (some 49) (.buildSlice 90 1 #[(0, (.tmp 48))]) #[true, true, true, true, true, true, true, false, false, false, false] (by kernel_rfl) (by kernel_rfl) (by rfl) (by kernel_rfl) (fun K hK => ?_)
          refine wp_box1 (C := e.cells) Try.underlying90 (by kernel_rfl) (built_qe e) g3 HG3.out ?_
          have hS : (W6.drew.alloc (.cells e.cells 70)).heap[g1]? = some (.cells e.cells 70 (0, 0)) := (Below.heap_alloc W6.drew _ g1 HG6.out).trans hS
          simp only [Act.put, List.setIfInBounds_toArray, List.set_cons_zero, List.set_cons_succ]
          refine hK.out _ _ hS ?_
          clear hK K
          refine rg_one 7 (some 50) (.call { callee := .builtin .append, args := #[(.tmp 47), (.tmp 49)], argTypes := #[90, 90] }) #[true, true, true, true, true, true, true, true, false, false, false] (by kernel_rfl) (by kernel_rfl) (by rfl) (by kernel_rfl) (fun K hK => ?_)
          refine wp_push1 qeRep 90 70 (.agg noER.cells) 192 Try.underlying90 info_qe noER_sz qe_sz0 (by decide) w.heap.size (fun k => k < w.heap.size) (fun k => k < w.heap.size) v X0 ⟨e, pe⟩ e.cells.toList g3 HG3.out (by kernel_rfl) (by kernel_rfl) HQ6.out.own.own ⟨rfl, HFe.out⟩ HJ.out HQ6.out.bel.size HLn.out rfl (fun A1 c1 W7 hG => ?_)
          have hS : W7.heap[g1]? = some (.cells e.cells 70 (0, 0)) := (hG.fr.block g1 HG6.out HG1.out.2.2.1).trans HG8.out
          have HG7 := Hold.mk hG
          have hb7 : W7.heap[B]? = some (.cells #[v, .map (some mb), .map (some db)] 163 (0, 0)) := (hG.fr.block B HQ6.out.lt (fun e => (HQ6.out.off B e).1 rfl)).trans HQ6.out.blk
          have HB7 := Hold.mk hb7
          clear hb7 hG
          simp only [Act.put, List.setIfInBounds_toArray, List.set_cons_zero, List.set_cons_succ]
          refine hK.out _ _ hS ?_
          clear hK K
          refine rg_take 8 51 (.nilCheck (.tmp 43)) (.pointer (some ⟨B, 0, none⟩)) #[true, true, true, true, true, true, true, true, true, false, false] (by kernel_rfl) (by rfl) (by kernel_rfl) (by kernel_rfl) (by kernel_rfl) (fun _ _ _ h => h) (.inl ⟨by kernel_rfl, fun _ _ => by go_simp⟩) hS ?_
          simp only [List.setIfInBounds_toArray, List.set_cons_zero, List.set_cons_succ]
          refine rg_take 9 52 (.fieldAddr 163 (.tmp 51) 0) (.pointer (some ⟨B, 0, none⟩)) #[true, true, true, true, true, true, true, true, true, true, false] (by kernel_rfl) (by rfl) (by kernel_rfl) (by kernel_rfl) (by kernel_rfl) (fun _ _ _ h => h) (.inl ⟨by kernel_rfl, fun _ _ => by go_simp⟩) hS ?_
          simp only [List.setIfInBounds_toArray, List.set_cons_zero, List.set_cons_succ]
          refine rg_one 10 none (.store 90 (.tmp 52) (.tmp 50)) #[true, true, true, true, true, true, true, true, true, true, true] (by kernel_rfl) (by kernel_rfl) (by rfl) (by kernel_rfl) (fun K hK => ?_)
          refine wp_skip (w' := W7.setCell ⟨B, 0, none⟩ (.slice A1 (X0.length + 1) c1)) (by have hcell := cell_heap HB7.out 0; have hfz : W7.frozen? ⟨B, 0, none⟩ = false := (by simp [World.frozen?, HB7.out]); go_simp) ?_
          have HQ8 := Hold.mk (HQ6.out.push HG7.out)
          rw [List.length_append, List.length_singleton] at HQ8
          have hS : (W7.setCell ⟨B, 0, none⟩ (.slice A1 (X0.length + 1) c1)).heap[g1]? = some (.cells e.cells 70 (0, 0)) := (Below.heap_setCell _ _ _ _ HG1.out.2.2.2).trans hS
          simp only [Act.put, List.setIfInBounds_toArray, List.set_cons_zero, List.set_cons_succ]
          refine hK.out _ _ hS ?_
          clear hK K
          refine wpAnyH_done (by kernel_rfl) ?_ _
          go_wp2
          exact ⟨⟨i + 1, by omega, by go_num, _, by rw [HT.out, HD.out]; exact HQ8⟩, by simp [intOf]; omega⟩
        · refine wp_box1 (C := e.cells) Try.underlying90 (by kernel_rfl) (built_qe e) g3 HG3.out ?_
          have hS : (W6.drew.alloc (.cells e.cells 70)).heap[g1]? = some (.cells e.cells 70 (0, 0)) := (Below.heap_alloc W6.drew _ g1 HG6.out).trans hS
          simp only [Act.put, List.setIfInBounds_toArray, List.set_cons_zero, List.set_cons_succ]
          refine hK.out _ _ hS ?_
          clear hK K
          refine rg_one 4 (some 47) (.load 90 (.tmp 46)) #[true, true, true, true, true, true, true, false, false, false, false] (by kernel_rfl) (by kernel_rfl) (by rfl) (by kernel_rfl) (fun K hK => ?_)
          refine wp_value (v := v) (w' := W6.drew.alloc (.cells e.cells 70)) (by have hcell := HK7.out; go_simp) ?_
          simp only [Act.put, List.setIfInBounds_toArray, List.set_cons_zero, List.set_cons_succ]
          refine hK.out _ _ hS ?_
          clear hK K
          refine rg_one 7 (some 50) (.call { callee := .builtin .append, args := #[(.tmp 47), (.tmp 49)], argTypes := #[90, 90] }) #[true, true, true, true, true, true, true, true, false, false, false] (by kernel_rfl) (by kernel_rfl) (by rfl) (by kernel_rfl) (fun K hK => ?_)
          refine wp_push1 qeRep 90 70 (.agg noER.cells) 192 Try.underlying90 info_qe noER_sz qe_sz0 (by decide) w.heap.size (fun k => k < w.heap.size) (fun k => k < w.heap.size) v X0 ⟨e, pe⟩ e.cells.toList g3 HG3.out (by kernel_rfl) (by kernel_rfl) HQ6.out.own.own ⟨rfl, HFe.out⟩ HJ.out HQ6.out.bel.size HLn.out rfl (fun A1 c1 W7 hG => ?_)
          have hS : W7.heap[g1]? = some (.cells e.cells 70 (0, 0)) := (hG.fr.block g1 HG6.out HG1.out.2.2.1).trans HG8.out
          have HG7 := Hold.mk hG
          have hb7 : W7.heap[B]? = some (.cells #[v, .map (some mb), .map (some db)] 163 (0, 0)) := (hG.fr.block B HQ6.out.lt (fun e => (HQ6.out.off B e).1 rfl)).trans HQ6.out.blk
          have HB7 := Hold.mk hb7
          clear hb7 hG
          simp only [Act.put, List.setIfInBounds_toArray, List.set_cons_zero, List.set_cons_succ]
          refine hK.out _ _ hS ?_
          clear hK K
          refine rg_take 8 51 (.nilCheck (.tmp 43)) (.pointer (some ⟨B, 0, none⟩)) #[true, true, true, true, true, true, true, true, true, false, false] (by kernel_rfl) (by rfl) (by kernel_rfl) (by kernel_rfl) (by kernel_rfl) (fun _ _ _ h => h) (.inl ⟨by kernel_rfl, fun _ _ => by go_simp⟩) hS ?_
          simp only [List.setIfInBounds_toArray, List.set_cons_zero, List.set_cons_succ]
          refine rg_take 9 52 (.fieldAddr 163 (.tmp 51) 0) (.pointer (some ⟨B, 0, none⟩)) #[true, true, true, true, true, true, true, true, true, true, false] (by kernel_rfl) (by rfl) (by kernel_rfl) (by kernel_rfl) (by kernel_rfl) (fun _ _ _ h => h) (.inl ⟨by kernel_rfl, fun _ _ => by go_simp⟩) hS ?_
          simp only [List.setIfInBounds_toArray, List.set_cons_zero, List.set_cons_succ]
          refine rg_one 10 none (.store 90 (.tmp 52) (.tmp 50)) #[true, true, true, true, true, true, true, true, true, true, true] (by kernel_rfl) (by kernel_rfl) (by rfl) (by kernel_rfl) (fun K hK => ?_)
          refine wp_skip (w' := W7.setCell ⟨B, 0, none⟩ (.slice A1 (X0.length + 1) c1)) (by have hcell := cell_heap HB7.out 0; have hfz : W7.frozen? ⟨B, 0, none⟩ = false := (by simp [World.frozen?, HB7.out]); go_simp) ?_
          have HQ8 := Hold.mk (HQ6.out.push HG7.out)
          rw [List.length_append, List.length_singleton] at HQ8
          have hS : (W7.setCell ⟨B, 0, none⟩ (.slice A1 (X0.length + 1) c1)).heap[g1]? = some (.cells e.cells 70 (0, 0)) := (Below.heap_setCell _ _ _ _ HG1.out.2.2.2).trans hS
          simp only [Act.put, List.setIfInBounds_toArray, List.set_cons_zero, List.set_cons_succ]
          refine hK.out _ _ hS ?_
          clear hK K
          refine wpAnyH_done (by kernel_rfl) ?_ _
          go_wp2
          exact ⟨⟨i + 1, by omega, by go_num, _, by rw [HT.out, HD.out]; exact HQ8⟩, by simp [intOf]; omega⟩
      · have HD : Hold (dd (L ++ [⟨e, pe⟩]) = X0) := ⟨by rw [hdd]; simp [QE.id, e1]⟩
        have HSm : Hold (entries L = entries (L ++ [⟨e, pe⟩])) := ⟨entries_same (l := L) (e := ⟨e, pe⟩) (by show (byS L e.c.id).isSome = true; rw [e1]; rfl)⟩
        obtain ⟨x, hx⟩ : ∃ x, x0.er = x := ⟨_, rfl⟩
        have HLk : Hold (∀ w', Below wr.heap.size wr w' → (Instr.lookup 160 (.map (some mb)) (.int .i64 e.c.id) true).run Try.prog w' = .ok (.tuple #[.agg x.cells, .bool true]) w') := ⟨fun w' h => by
          have := (HQ.out.below h).look e.c.id HC.out
          rwa [e2, e3, hx] at this⟩
        clear e1 e2 e3 hdd hx
        go_upto_region 5 with (first
          | (with_reducible refine gateA 70 ?_; refine wpl_alloc zeroE hB0 rfl ?_; intro W2 g1 hB; simp only [List.nil_append] at hB)
          | (with_reducible refine gateS 70 ?_; refine wpl_store (C' := e.cells) isE rfl rfl hB 0 rfl (ER.size _) (ER.size _) (ER.one _) rfl ?_; intro W3 hB; simp only [List.set] at hB)
          | (with_reducible refine gateL 70 ?_; refine wpl_loadO isE rfl (ER.size e) hQx rfl ?_))
        simp only [Act.put, List.setIfInBounds_toArray, List.set_cons_zero, List.set_cons_succ]
        have HCi : Hold (∀ w', Bs wr w' [(g1, 70, e.cells)] → w'.cell? ⟨g1, 0, none⟩ = some (.int .i64 e.c.id)) := ⟨fun w' h => h.cell 0 rfl 0⟩
        replace hB := hB.drew
        have hS := hB
        refine rg_start (S := fun w' => Bs wr w' [(g1, 70, e.cells)]) 14 #[false, false, false, false, false, false, false, false, false, false, false, false, false, false] (by kernel_rfl) (by kernel_rfl) (by kernel_rfl) hS ?_
        refine rg_take 0 23 (.move (.tmp 5)) (.pointer (some ⟨B, 0, none⟩)) #[true, false, false, false, false, false, false, false, false, false, false, false, false, false] (by kernel_rfl) (by rfl) (by kernel_rfl) (by kernel_rfl) (by kernel_rfl) (fun _ _ _ h => h) (.inl ⟨by kernel_rfl, fun _ _ => by kernel_rfl⟩) hS ?_
        simp only [List.setIfInBounds_toArray, List.set_cons_zero, List.set_cons_succ]
        refine rg_take 1 24 (.nilCheck (.tmp 23)) (.pointer (some ⟨B, 0, none⟩)) #[true, true, false, false, false, false, false, false, false, false, false, false, false, false] (by kernel_rfl) (by rfl) (by kernel_rfl) (by kernel_rfl) (by kernel_rfl) (fun _ _ _ h => h) (.inl ⟨by kernel_rfl, fun _ _ => by go_simp⟩) hS ?_
        simp only [List.setIfInBounds_toArray, List.set_cons_zero, List.set_cons_succ]
        refine rg_take 2 25 (.fieldAddr 163 (.tmp 24) 1) (.pointer (some ⟨B, 1, none⟩)) #[true, true, true, false, false, false, false, false, false, false, false, false, false, false] (by kernel_rfl) (by rfl) (by kernel_rfl) (by kernel_rfl) (by kernel_rfl) (fun _ _ _ h => h) (.inl ⟨by kernel_rfl, fun _ _ => by go_simp⟩) hS ?_
        simp only [List.setIfInBounds_toArray, List.set_cons_zero, List.set_cons_succ]
        refine rg_take 3 26 (.load 160 (.tmp 25)) (.map (some mb)) #[true, true, true, true, false, false, false, false, false, false, false, false, false, false] (by kernel_rfl) (by rfl) (by kernel_rfl) (by kernel_rfl) (by kernel_rfl) (fun _ _ _ h => h) (.inl ⟨by kernel_rfl, fun w hSw => by have hcell := (HQ.out.below hSw.below).cells.2.1; go_simp⟩) hS ?_
        simp only [List.setIfInBounds_toArray, List.set_cons_zero, List.set_cons_succ]
        refine rg_take 4 27 (.fieldAddr 70 (.tmp 7) 0) (.pointer (some ⟨g1, 0, none⟩)) #[true, true, true, true, true, false, false, false, false, false, false, false, false, false] (by kernel_rfl) (by rfl) (by kernel_rfl) (by kernel_rfl) (by kernel_rfl) (fun _ _ _ h => h) (.inl ⟨by kernel_rfl, fun _ _ => by go_simp⟩) hS ?_
        simp only [List.setIfInBounds_toArray, List.set_cons_zero, List.set_cons_succ]
        refine rg_take 5 28 (.fieldAddr 45 (.tmp 27) 0) (.pointer (some ⟨g1, 0, none⟩)) #[true, true, true, true, true, true, false, false, false, false, false, false, false, false] (by kernel_rfl) (by rfl) (by kernel_rfl) (by kernel_rfl) (by kernel_rfl) (fun _ _ _ h => h) (.inl ⟨by kernel_rfl, fun _ _ => by go_simp⟩) hS ?_
        simp only [List.setIfInBounds_toArray, List.set_cons_zero, List.set_cons_succ]
        refine rg_take 6 29 (.load 3 (.tmp 28)) (.int .i64 e.c.id) #[true, true, true, true, true, true, true, false, false, false, false, false, false, false] (by kernel_rfl) (by rfl) (by kernel_rfl) (by kernel_rfl) (by kernel_rfl) (fun _ _ _ h => h) (.inl ⟨by kernel_rfl, fun w hSw => by have hcell := HCi.out _ hSw; go_simp⟩) hS ?_
        simp only [List.setIfInBounds_toArray, List.set_cons_zero, List.set_cons_succ]
        refine rg_take 7 30 (.lookup 160 (.tmp 26) (.tmp 29) true) (.tuple #[.agg x.cells, .bool true]) #[true, true, true, true, true, true, true, true, false, false, false, false, false, false] (by kernel_rfl) (by rfl) (by kernel_rfl) (by kernel_rfl) (by kernel_rfl) (fun _ _ _ h => h) (.inl ⟨by kernel_rfl, fun w hSw => by have hcell := HLk.out _ hSw.below; go_simp⟩) hS ?_
        simp only [List.setIfInBounds_toArray, List.set_cons_zero, List.set_cons_succ]
        refine rg_take 8 22 (.move (.tmp 30)) (.tuple #[.agg x.cells, .bool true]) #[true, true, true, true, true, true, true, true, true, false, false, false, false, false] (by kernel_rfl) (by rfl) (by kernel_rfl) (by kernel_rfl) (by kernel_rfl) (fun _ _ _ h => h) (.inl ⟨by kernel_rfl, fun _ _ => by kernel_rfl⟩) hS ?_
        simp only [List.setIfInBounds_toArray, List.set_cons_zero, List.set_cons_succ]
        refine rg_take 9 31 (.extract (.tmp 22) 0) (.agg x.cells) #[true, true, true, true, true, true, true, true, true, true, false, false, false, false] (by kernel_rfl) (by rfl) (by kernel_rfl) (by kernel_rfl) (by kernel_rfl) (fun _ _ _ h => h) (.inl ⟨by kernel_rfl, fun _ _ => by go_simp⟩) hS ?_
        simp only [List.setIfInBounds_toArray, List.set_cons_zero, List.set_cons_succ]
        refine rg_take 10 32 (.extract (.tmp 22) 1) (.bool true) #[true, true, true, true, true, true, true, true, true, true, true, false, false, false] (by kernel_rfl) (by rfl) (by kernel_rfl) (by kernel_rfl) (by kernel_rfl) (fun _ _ _ h => h) (.inl ⟨by kernel_rfl, fun _ _ => by go_simp⟩) hS ?_
        simp only [List.setIfInBounds_toArray, List.set_cons_zero, List.set_cons_succ]
        refine rg_one 11 (some 8) (.alloc 70) #[true, true, true, true, true, true, true, true, true, true, true, true, false, false] (by kernel_rfl) (by kernel_rfl) (by rfl) (by kernel_rfl) (fun K hK => ?_)
        refine wp_alloc zeroE hB (fun W4 g2 hB => ?_)
        simp only [List.cons_append, List.nil_append] at hB
        have hS : Bs wr W4 [(g1, 70, e.cells)] := hB.sub (fun i => i) (fun i x h => by rcases i with _ | i <;> first | exact h | (simp at h)) (fun i j _ _ h => h)
        simp only [Act.put, List.setIfInBounds_toArray, List.set_cons_zero, List.set_cons_succ]
        refine hK.out _ _ hS ?_
        clear hK K
        refine rg_one 12 none (.store 70 (.tmp 8) (.tmp 31)) #[true, true, true, true, true, true, true, true, true, true, true, true, true, false] (by kernel_rfl) (by kernel_rfl) (by rfl) (by kernel_rfl) (fun K hK => ?_)
        refine wp_store isE (b := g2) (C' := x.cells) (by kernel_rfl) (by kernel_rfl) hB 1 (by rfl) (ER.size _) (ER.size _) (ER.one _) (fun W5 hB => ?_)
        simp only [List.set] at hB
        have hS : Bs wr W5 [(g1, 70, e.cells)] := hB.sub (fun i => i) (fun i x h => by rcases i with _ | i <;> first | exact h | (simp at h)) (fun i j _ _ h => h)
        simp only [Act.put, List.setIfInBounds_toArray, List.set_cons_zero, List.set_cons_succ]
        refine hK.out _ _ hS ?_
        clear hK K
        refine rg_take 13 9 (.assign (.tmp 32)) (.bool true) #[true, true, true, true, true, true, true, true, true, true, true, true, true, true] (by kernel_rfl) (by rfl) (by kernel_rfl) (by kernel_rfl) (by kernel_rfl) (fun _ _ _ h => h) (.inl ⟨by kernel_rfl, fun _ _ => by kernel_rfl⟩) hS ?_
        simp only [List.setIfInBounds_toArray, List.set_cons_zero, List.set_cons_succ]
        refine wpAnyH_done (by kernel_rfl) ?_ _
        go_wp2
        exact ⟨⟨i + 1, by omega, by go_num, v, by rw [HT.out, HD.out]; exact ⟨(HQ.out.below hB.below).same _ HSm.out⟩⟩, by simp [intOf]; omega⟩
    · obtain rfl : i = l.length := by omega
      rw [List.take_length] at HQ
      go_wp2
      go_loopw [56] (fun s w2 => ∃ i : Nat, i ≤ had.length ∧ s = .int .i64 (i : Int) ∧ Hold (QU w w2 B mb db v (dd l) l (had.take i))) (fun s _ => had.length - (intOf s).toNat)
      case atStart => exact ⟨0, by omega, rfl, HQ⟩
      case round =>
        obtain ⟨i, hi, rfl, HQ⟩ := hrel
        by_cases hlt : i < had.length
        · have l1 : (i : Int) < (had.length : Int) := by omega
          obtain ⟨ad, cs, rfl, _, _, ⟨rfl, hwf⟩, hc⟩ := (H'.out.below HQ.out.bel).at i hlt
          have c0 : wr.cell? (ad.add i) = some (.int .i64 had[i]) := by have := hc 0 _ rfl; simpa [Rep.int] using this
          have hT : had.take (i + 1) = had.take i ++ [had[i]] := List.take_succ_eq_append_getElem hlt
          obtain ⟨id, hid⟩ : ∃ id, had[i] = id := ⟨_, rfl⟩
          rw [hid] at c0 hT hwf
          have hle : (had.take i).length ≤ 100000 := by rw [List.length_take]; omega
          obtain ⟨G, hG⟩ : ∃ G, had.take i = G := ⟨_, rfl⟩
          rw [hG] at HQ hT hle
          have HT := Hold.mk hT
          have hcnt : G.count id ≤ 100000 := Nat.le_trans List.count_le_length hle
          obtain ⟨m, hm3⟩ : ∃ m, ((G.count id : Nat) : Int) = m := ⟨_, rfl⟩
          have m0 : 0 ≤ m := by omega
          have m1 : m ≤ 100000 := by omega
          have fl : (Instr.lookup 161 (.map (some db)) (.int .i64 id) false).run Try.prog wr = .ok (.int .i64 m) wr := by rw [← hm3]; exact HQ.out.count id hwf
          have HCn : Hold ((fun j => if j = id then some (Value.int .i64 (m + 1)) else counts G j) = counts (G ++ [id])) := ⟨by rw [← hm3]; exact counts_add G id⟩
          have f2 := HQ.out.cells.2.2
          have HN : Hold (G.length < maxLen) := ⟨by simp only [maxLen]; omega⟩
          have HW := Hold.mk hwf
          clear hT hG hle hcnt hm3 hid hc hwf
          go_wp2_with (with_reducible refine gateM 161 ?_; refine MapI.wpl_update rfl id (.int .i64 (m + 1)) rfl rfl HQ.out.dn Try.underlying3 Try.underlying161 HN.out HW.out rfl ?_; intro w3 hm3 hf3)
          rw [HCn.out] at hm3
          exact ⟨⟨i + 1, by omega, by go_num, by rw [HT.out]; exact ⟨HQ.out.cnt id hf3 hm3⟩⟩, by simp [intOf]; omega⟩
        · obtain rfl : i = had.length := by omega
          rw [List.take_length] at HQ
          go_wp2
          go_ret
          exact ⟨B, mb, db, v, rfl, HQ⟩
end Go.Proofs.Ytebhclgnpnlekaa.Ord
