/- The document's Look of chapter 21, by its walk. No condition. -/
import Derived.Test.YtebhclgnpnlekaaChkD
import Derived.Test.YtebhclgnpnlekaaChkK
namespace Go.Proofs.Ytebhclgnpnlekaa.Chk
open Go.RowKit Go.Proofs.Ytebhclgnpnlekaa.B Go.Proofs.Ytebhclgnpnlekaa.Cmd Go.Proofs.Ytebhclgnpnlekaa.Agg Go.Proofs.Ytebhclgnpnlekaa.Ent Go.Proofs.Ytebhclgnpnlekaa.Ord
set_option maxHeartbeats 8000000 in
set_option maxRecDepth 100000 in
theorem look21_calls (A : Option Addr) (c : Nat) (l : List ViewD) (I : Nat → Prop) (w : World) (h0 : Rep.Row viewRep I w A l) (hl : l.length ≤ 1000) (hb : ∀ v ∈ l, v.1.length ≤ 1000) (p : Int × Int × Int) (hp : look l = p) :
    Calls Try.prog 74 #[.slice A l.length c] w fun r w' => r = .returned (.tuple #[.int .i64 p.1, .int .i64 p.2.1, .int .i64 p.2.2]) ∧ Hold (Below w.heap.size w w') := by
  have h : Rep.Row viewRep (fun k => k < w.heap.size) w A l := h0.move fun k _ hlt => ⟨hlt, rfl⟩
  have hm := h.len_le
  have H := Hold.mk h
  have HL := Hold.mk hl
  have HBd := Hold.mk hb
  have HP := Hold.mk hp
  obtain ⟨X, hX⟩ : ∃ X, allOwn l = X := ⟨_, rfl⟩
  have HDn := Hold.mk (done21_calls A c l (fun k => k < w.heap.size) w (fun _ h => h) h hl hb)
  have hXl : X.length ≤ 1000000 := by rw [← hX]; have h1 := allOwn_len l 1000 hb; have : l.length * 1000 ≤ 1000 * 1000 := Nat.mul_le_mul_right _ hl; omega
  have hXm : X.length ≤ 9223372036854775807 := by omega
  rw [hX] at HDn
  have HX := Hold.mk hX
  clear h h0 hl hb hp hX hXl
  go_enter Try.func74, Try.ntmps74
  go_wp2_with (go_at_call 131; with_reducible refine HDn.out.mono ?_; rintro r w1 ⟨v, rfl, HM⟩; obtain ⟨XA, xc, rfl, _, _⟩ := HM.out.form)
  have HR1 : Hold (Rep.Row qeRep (fun _ => True) w1 XA X) := ⟨HM.out.own.row.move fun k _ _ => ⟨trivial, rfl⟩⟩
  have HB1 : Hold (Below w.heap.size w w1) := ⟨HM.out.bel⟩
  clear HDn HM
  go_loopw [6] (fun s wr => ∃ f : Nat, 1 ≤ f ∧ f ≤ 4 ∧ s = .int .i64 (f : Int) ∧ Hold (∀ j, j + 1 < f → pairs (j + 1) X = none) ∧ Hold (Below w1.heap.size w1 wr)) (fun s _ => 4 - (intOf s).toNat)
  case atStart => exact ⟨1, by omega, by omega, rfl, ⟨fun j hj => by omega⟩, ⟨Below.refl _ _⟩⟩
  case round =>
    obtain ⟨f, hf1, hf4, rfl, HNo, HB⟩ := hrel
    by_cases hf3 : f ≤ 3
    · have l1 : (f : Int) ≤ 3 := by omega
      have hc := pairs21_calls f ⟨hf1, hf3⟩ XA xc X _ wr (HR1.out.below HB.out)
      obtain ⟨o, ho⟩ : ∃ o, pairs f X = o := ⟨_, rfl⟩
      rw [ho] at hc
      obtain ⟨y1, hy1⟩ : ∃ y, (bestP o).1 = y := ⟨_, rfl⟩
      obtain ⟨y2, hy2⟩ : ∃ y, (bestP o).2 = y := ⟨_, rfl⟩
      obtain ⟨n, hn⟩ : ∃ n, o.isSome = n := ⟨_, rfl⟩
      have HC : Hold (Calls Try.prog 132 #[.slice XA X.length xc, .int .i64 (f : Int)] wr fun r w' => r = .returned (.tuple #[.agg #[.int .i64 y1, .int .i64 y2], .bool n]) ∧ Hold (Below wr.heap.size wr w')) := ⟨by rw [← hy1, ← hy2, ← hn]; exact hc⟩
      have HOo := Hold.mk ho
      have HY : Hold ((bestP o).1 = y1 ∧ (bestP o).2 = y2 ∧ o.isSome = n) := ⟨hy1, hy2, hn⟩
      clear hc ho hy1 hy2 hn
      cases n
      · have HNo2 : Hold (∀ j, j + 1 < f + 1 → pairs (j + 1) X = none) := ⟨fun j hj => by
          by_cases h : j + 1 < f
          · exact HNo.out j h
          · have : j + 1 = f := by omega
            rw [this, HOo.out]
            have h3 := HY.out.2.2
            cases o with
            | none => rfl
            | some _ => cases h3⟩
        go_wp2_with (go_at_call 132; with_reducible refine HC.out.mono ?_; rintro r w3 ⟨rfl, HB3⟩)
        refine ⟨⟨f + 1, ?_, ?_, ?_, HNo2, ?_⟩, ?_⟩
        · omega
        · omega
        · go_num
        · exact ⟨((HB.out.trans (HB3.out.mono HB.out.size)).alloc (Nat.le_trans HB.out.size HB3.out.size) _)⟩
        · simp only [intOf]; omega
      · have hlk : p = ((f : Int), y1, y2) := by
          have h3 := HY.out
          rw [← HP.out]
          cases o with
          | none => cases h3.2.2
          | some pr =>
            have h4 := look_found l (f - 1) (by omega) (fun j hj => by rw [HX.out]; exact HNo.out j (by omega)) pr (by rw [HX.out, show f - 1 + 1 = f by omega]; exact HOo.out)
            rw [h4, ← h3.1, ← h3.2.1]
            have : (1 : Int) + ((f - 1 : Nat) : Int) = (f : Int) := by omega
            rw [this]
            rfl
        have HLk := Hold.mk hlk
        clear hlk
        go_upto_region 7 with (go_at_call 132; with_reducible refine HC.out.mono ?_; rintro r w3 ⟨rfl, HB3⟩)
        try simp only [Act.put, List.setIfInBounds_toArray, List.set_cons_zero, List.set_cons_succ]
        obtain ⟨b7, hb7⟩ : ∃ b, w3.heap.size = b := ⟨_, rfl⟩
        obtain ⟨W7, hW7⟩ : ∃ W, w3.alloc (.cells #[.int .i64 y1, .int .i64 y2] 172) = W := ⟨_, rfl⟩
        have hz7 : W7.heap[b7]? = some (.cells #[.int .i64 y1, .int .i64 y2] 172 (0, 0)) := by rw [← hW7, ← hb7]; exact Array.getElem?_push_size ..
        have hal : Below w3.heap.size w3 W7 := by rw [← hW7]; exact (Below.refl _ _).alloc (Nat.le_refl _) _
        have t0 : W7.cell? ⟨b7, 0, none⟩ = some (.int .i64 y1) := cell_heap hz7 0
        have t1 : W7.cell? ⟨b7, 1, none⟩ = some (.int .i64 y2) := cell_heap hz7 1
        have h13 : Below w.heap.size w w3 := HB1.out.trans ((HB.out.trans (HB3.out.mono HB.out.size)).mono HB1.out.size)
        have HBw : Hold (Below w.heap.size w W7) := ⟨h13.trans (hal.mono h13.size)⟩
        rw [hW7, hb7]
        clear hz7 hal h13 hW7 hb7
        go_big_quiet (fail)
        go_wp2
        (try simp only [Exit.inBlock, Exit.then]); refine bodyPost_ret (results_tmp3 rfl _ _ _) rfl ?_
        exact ⟨by rw [HLk.out]; rfl, ⟨HBw.out.trans ((below_drewN _ _).mono HBw.out.size)⟩⟩
    · have l1 : ¬ (f : Int) ≤ 3 := by omega
      have hlk := look_late l (by rw [HX.out]; exact fun j hj => HNo.out j (by omega))
      rw [HP.out] at hlk
      have HLk := Hold.mk hlk
      have hBw : Below w.heap.size w wr := HB1.out.trans (HB.out.mono HB1.out.size)
      obtain ⟨b9, hb9⟩ : ∃ b, wr.heap.size = b := ⟨_, rfl⟩
      obtain ⟨W9, hW9⟩ : ∃ W, wr.alloc (.cells #[.int .i64 0, .int .i64 0] 172) = W := ⟨_, rfl⟩
      have hz9 : W9.heap[b9]? = some (.cells #[.int .i64 0, .int .i64 0] 172 (0, 0)) := by rw [← hW9, ← hb9]; exact Array.getElem?_push_size ..
      have hal : Below wr.heap.size wr W9 := by rw [← hW9]; exact (Below.refl _ _).alloc (Nat.le_refl _) _
      have HB9w : Hold (Below w.heap.size w W9) := ⟨hBw.trans (hal.mono hBw.size)⟩
      have HGs : Hold (w.heap.size ≤ b9) := ⟨by rw [← hb9]; exact hBw.size⟩
      have HR9 : Hold (Rep.Row viewRep (fun k => k ≠ b9) W9 A l) := ⟨(H.out.below HB9w.out).move fun k hk hlt => ⟨by have := HGs.out; omega, rfl⟩⟩
      have HP9 : Hold (PI b9 W9 W9 (lateUp l 0)) := ⟨⟨hz9, Fr.refl _ _⟩⟩
      have HW9 := Hold.mk hW9
      clear hlk hBw hz9 hal hW9 HNo
      go_wp2
      rw [HW9.out]
      clear hb9
      go_loopw [10, 11] (fun n s wr => ∃ i : Nat, i ≤ l.length ∧ s = .int .i64 (i : Int) ∧ ∃ o, n = .bool o.isNone ∧ Hold (lateUp l i = o) ∧ Hold (PI b9 W9 wr o)) (fun _ s _ => l.length - (intOf s).toNat)
      case atStart => exact ⟨0, by omega, rfl, none, rfl, ⟨rfl⟩, HP9⟩
      case round =>
        obtain ⟨i, hi, rfl, o, rfl, HO, HI⟩ := hrel
        by_cases hlt : i < l.length
        · have l2 : (i : Int) < (l.length : Int) := by omega
          obtain ⟨ad, pt, A1, c1, B1, d1, rfl, hp, hpl, k0, k1, _, _, hd1, _, hr, hr'⟩ := row_view (row_frD HR9.out HI.out.fr) i hlt
          have hbd := HBd.out l[i] (List.getElem_mem hlt)
          have hus := lateUp_succ l i hlt
          rw [HO.out] at hus
          obtain ⟨v, hv⟩ : ∃ v, l[i] = v := ⟨_, rfl⟩
          rw [hv] at k0 k1 hd1 hr hr' hbd hus
          obtain ⟨L, had⟩ := v
          have hQ := two_cells k0 k1
          have hpb : pt.block ≠ b9 := by
            obtain ⟨ad', _, e, hIb, _, _, _⟩ := (row_frD HR9.out HI.out.fr).at i hlt
            cases e
            rw [← hp, Rep.add_block]
            exact hIb
          have HQ : Hold (∀ w', Fr (fun k => k = b9) wr w' → ∀ (j : Nat) (u : Value), #[Value.slice A1 L.length c1, .slice B1 had.length d1][j]? = some u → w'.cell? (pt.add j) = some u) := ⟨fun w' hf j u hu => (hf.cell (p := pt.add j) (by rw [Rep.add_block]; exact hpl) (by rw [Rep.add_block]; exact hpb)).trans (hQ j u hu)⟩
          obtain ⟨o2, ho2⟩ : ∃ o2, lateUp l (i + 1) = o2 := ⟨_, rfl⟩
          rw [ho2] at hus
          obtain ⟨y1, hy1⟩ : ∃ y, (bestP o).1 = y := ⟨_, rfl⟩
          obtain ⟨y2, hy2⟩ : ∃ y, (bestP o).2 = y := ⟨_, rfl⟩
          obtain ⟨n, hn⟩ : ∃ n, o.isNone = n := ⟨_, rfl⟩
          obtain ⟨z1, hz1⟩ : ∃ y, (bestP o2).1 = y := ⟨_, rfl⟩
          obtain ⟨z2, hz2⟩ : ∃ y, (bestP o2).2 = y := ⟨_, rfl⟩
          obtain ⟨n2, hn2⟩ : ∃ n, o2.isNone = n := ⟨_, rfl⟩
          have HC : Hold (Calls Try.prog 133 #[.agg #[.slice A1 L.length c1, .slice B1 had.length d1], .agg #[.int .i64 y1, .int .i64 y2], .bool n] wr.drew fun r w' => r = .returned (.tuple #[.agg #[.int .i64 z1, .int .i64 z2], .bool n2]) ∧ Hold (Below wr.drew.heap.size wr.drew w')) := ⟨by
            have := late21_calls A1 B1 c1 d1 L had o o2 _ wr.drew (Rep.Row.drew hr) (Rep.Row.drew hr') (by have : L.length ≤ 1000 := hbd; omega) y1 y2 n hy1 hy2 hn hus
            rw [← hz1, ← hz2, ← hn2]
            exact this⟩
          have hblk := HI.out.blk
          rw [hy1, hy2] at hblk
          have g0 : wr.cell? ⟨b9, 0, none⟩ = some (.int .i64 y1) := cell_heap hblk 0
          have g1 : wr.cell? ⟨b9, 1, none⟩ = some (.int .i64 y2) := cell_heap hblk 1
          have HB9 : Hold (b9 < wr.drew.heap.size ∧ wr.drew.heap[b9]? = some (.cells #[.int .i64 y1, .int .i64 y2] 172 (0, 0))) := ⟨HI.out.lt, hblk⟩
          have HO2 := Hold.mk ho2
          have HZ2 : Hold ((bestP o2).1 = z1 ∧ (bestP o2).2 = z2 ∧ o2.isNone = n2) := ⟨hz1, hz2, hn2⟩
          rw [hn]
          clear k0 k1 hd1 hr hr' hbd hus hv hQ hpb hblk ho2 hy1 hy2 hn hz1 hz2 hn2
          go_upto_region 13 with (fail)
          try simp only [Act.put, List.setIfInBounds_toArray, List.set_cons_zero, List.set_cons_succ]
          have hS : Fr (fun k => k = b9) wr wr.drew := (Fr.refl _ _).drew
          refine rg_start (S := fun w' => Fr (fun k => k = b9) wr w') 12 #[false, false, false, false, false, false, false, false, false, false, false, false] (by kernel_rfl) (by kernel_rfl) (by kernel_rfl) hS ?_
          refine rg_take 0 38 (.move (.tmp 0)) (.slice (some ad) l.length c) #[true, false, false, false, false, false, false, false, false, false, false, false] (by kernel_rfl) (by rfl) (by kernel_rfl) (by kernel_rfl) (by kernel_rfl) (fun _ _ _ h => h) (.inl ⟨by kernel_rfl, fun _ _ => by kernel_rfl⟩) hS ?_
          simp only [List.setIfInBounds_toArray, List.set_cons_zero, List.set_cons_succ]
          refine rg_take 1 39 (.move (.tmp 11)) (.int .i64 (i : Int)) #[true, true, false, false, false, false, false, false, false, false, false, false] (by kernel_rfl) (by rfl) (by kernel_rfl) (by kernel_rfl) (by kernel_rfl) (fun _ _ _ h => h) (.inl ⟨by kernel_rfl, fun _ _ => by kernel_rfl⟩) hS ?_
          simp only [List.setIfInBounds_toArray, List.set_cons_zero, List.set_cons_succ]
          refine rg_take 2 40 (.indexAddr 119 (.tmp 38) (.tmp 39)) (.pointer (some pt)) #[true, true, true, false, false, false, false, false, false, false, false, false] (by kernel_rfl) (by rfl) (by kernel_rfl) (by kernel_rfl) (by kernel_rfl) (fun _ _ _ h => h) (.inl ⟨by kernel_rfl, fun _ _ => by go_simp⟩) hS ?_
          simp only [List.setIfInBounds_toArray, List.set_cons_zero, List.set_cons_succ]
          refine rg_take 3 41 (.load 184 (.tmp 40)) (.agg #[.slice A1 L.length c1, .slice B1 had.length d1]) #[true, true, true, true, false, false, false, false, false, false, false, false] (by kernel_rfl) (by rfl) (by kernel_rfl) (by kernel_rfl) (by kernel_rfl) (fun _ _ _ h => h) (yl_old isV21 (by kernel_rfl) rfl (fun w' hSw => HQ.out w' hSw) (by kernel_rfl)) hS ?_
          simp only [List.setIfInBounds_toArray, List.set_cons_zero, List.set_cons_succ]
          refine rg_take 5 43 (.move (.tmp 10)) (.bool n) #[true, true, true, true, false, true, false, false, false, false, false, false] (by kernel_rfl) (by rfl) (by kernel_rfl) (by kernel_rfl) (by kernel_rfl) (fun _ _ _ h => h) (.inl ⟨by kernel_rfl, fun _ _ => by kernel_rfl⟩) hS ?_
          simp only [List.setIfInBounds_toArray, List.set_cons_zero, List.set_cons_succ]
          refine rg_one 4 (some 42) (.load 172 (.tmp 9)) #[true, true, true, true, true, true, false, false, false, false, false, false] (by kernel_rfl) (by kernel_rfl) (by rfl) (by kernel_rfl) (fun K hK => ?_)
          refine Ord.wp_value (v := .agg #[.int .i64 y1, .int .i64 y2]) (w' := wr.drew) (by have hc0 : (wr.drew).cell? ⟨b9, 0, none⟩ = some (.int .i64 y1) := g0; have hc1 : (wr.drew).cell? ⟨b9, 1, none⟩ = some (.int .i64 y2) := g1; go_simp) ?_
          simp only [Act.put, List.setIfInBounds_toArray, List.set_cons_zero, List.set_cons_succ]
          refine hK.out _ _ hS ?_
          clear hK K
          refine rg_one 6 (some 44) (.call { callee := .value (.func 133), args := #[(.tmp 41), (.tmp 42), (.tmp 43)], argTypes := #[184, 172, 4] }) #[true, true, true, true, true, true, true, false, false, false, false, false] (by kernel_rfl) (by kernel_rfl) (by rfl) (by kernel_rfl) (fun K hK => ?_)
          refine wp_callb (v := .tuple #[.agg #[.int .i64 z1, .int .i64 z2], .bool n2]) (by go_simp) HC.out (fun Wc hbc => ?_)
          have hS : Fr (fun k => k = b9) wr Wc := (Fr.refl _ _).drew.trans (Fr.of_below _ hbc.out) (fun _ _ h => h)
          have hzc := (hbc.out.block b9 HB9.out.1).trans HB9.out.2
          simp only [Act.put, List.setIfInBounds_toArray, List.set_cons_zero, List.set_cons_succ]
          refine hK.out _ _ hS ?_
          clear hK K
          refine rg_take 7 37 (.move (.tmp 44)) (.tuple #[.agg #[.int .i64 z1, .int .i64 z2], .bool n2]) #[true, true, true, true, true, true, true, true, false, false, false, false] (by kernel_rfl) (by rfl) (by kernel_rfl) (by kernel_rfl) (by kernel_rfl) (fun _ _ _ h => h) (.inl ⟨by kernel_rfl, fun _ _ => by kernel_rfl⟩) hS ?_
          simp only [List.setIfInBounds_toArray, List.set_cons_zero, List.set_cons_succ]
          refine rg_take 8 45 (.extract (.tmp 37) 0) (.agg #[.int .i64 z1, .int .i64 z2]) #[true, true, true, true, true, true, true, true, true, false, false, false] (by kernel_rfl) (by rfl) (by kernel_rfl) (by kernel_rfl) (by kernel_rfl) (fun _ _ _ h => h) (.inl ⟨by kernel_rfl, fun _ _ => by go_simp⟩) hS ?_
          simp only [List.setIfInBounds_toArray, List.set_cons_zero, List.set_cons_succ]
          refine rg_take 9 46 (.extract (.tmp 37) 1) (.bool n2) #[true, true, true, true, true, true, true, true, true, true, false, false] (by kernel_rfl) (by rfl) (by kernel_rfl) (by kernel_rfl) (by kernel_rfl) (fun _ _ _ h => h) (.inl ⟨by kernel_rfl, fun _ _ => by go_simp⟩) hS ?_
          simp only [List.setIfInBounds_toArray, List.set_cons_zero, List.set_cons_succ]
          refine rg_one 10 none (.store 172 (.tmp 9) (.tmp 45)) #[true, true, true, true, true, true, true, true, true, true, true, false] (by kernel_rfl) (by kernel_rfl) (by rfl) (by kernel_rfl) (fun K hK => ?_)
          refine Ord.wp_skip (w' := (Wc.setCell ⟨b9, 0, none⟩ (.int .i64 z1)).setCell ⟨b9, 1, none⟩ (.int .i64 z2)) (by have hc0 := cell_heap hzc 0; have hc1 := cell_heap hzc 1; have hz : ∀ k, Wc.frozen? ⟨b9, k, none⟩ = false := (fun k => by simp [World.frozen?, hzc]); go_simp) ?_
          obtain ⟨s1, s2⟩ := set2 hzc (.int .i64 z1) (.int .i64 z2)
          obtain ⟨W2, hW2⟩ : ∃ W, (Wc.setCell ⟨b9, 0, none⟩ (.int .i64 z1)).setCell ⟨b9, 1, none⟩ (.int .i64 z2) = W := ⟨_, rfl⟩
          rw [hW2] at s1 s2 ⊢
          have hS : Fr (fun k => k = b9) wr W2 := hS.trans s2 (fun _ _ h => h)
          simp only [Act.put, List.setIfInBounds_toArray, List.set_cons_zero, List.set_cons_succ]
          refine hK.out _ _ hS ?_
          clear hK K
          refine rg_take 11 10 (.assign (.tmp 46)) (.bool n2) #[true, true, true, true, true, true, true, true, true, true, true, true] (by kernel_rfl) (by rfl) (by kernel_rfl) (by kernel_rfl) (by kernel_rfl) (fun _ _ _ h => h) (.inl ⟨by kernel_rfl, fun _ _ => by kernel_rfl⟩) hS ?_
          simp only [List.setIfInBounds_toArray, List.set_cons_zero, List.set_cons_succ]
          refine wpAnyH_done (by kernel_rfl) ?_ _
          have HPn : Hold (PI b9 W9 W2 o2) := ⟨⟨by rw [HZ2.out.1, HZ2.out.2.1]; exact s1, HI.out.fr.trans hS (fun _ _ h => h)⟩⟩
          clear hS s1 s2 hzc hbc hW2
          go_wp2
          exact ⟨⟨i + 1, by omega, by go_num, o2, congrArg Value.bool HZ2.out.2.2.symm, HO2, HPn⟩, by simp [intOf]; omega⟩
        · obtain rfl : i = l.length := by omega
          have ho := HO.out
          rw [lateUp_all] at ho
          rw [ho] at HLk
          have HBw : Hold (Below w.heap.size w wr) := ⟨below_fr HB9w.out HI.out.fr HGs.out⟩
          have hz := HI.out.blk
          clear ho
          cases o with
          | none =>
            clear hz
            simp only [Option.isNone_none]
            go_wp2
            (try simp only [Exit.inBlock, Exit.then]); refine bodyPost_ret (results_tmp3 rfl _ _ _) rfl ?_
            exact ⟨by rw [HLk.out]; rfl, HBw⟩
          | some pr =>
            obtain ⟨r1, r2⟩ := pr
            have f0 : wr.cell? ⟨b9, 0, none⟩ = some (.int .i64 r1) := cell_heap hz 0
            have f1 : wr.cell? ⟨b9, 1, none⟩ = some (.int .i64 r2) := cell_heap hz 1
            clear hz
            simp only [Option.isNone_some]
            go_upto_region 15 with (fail)
            go_big_quiet (fail)
            go_wp2
            (try simp only [Exit.inBlock, Exit.then]); refine bodyPost_ret (results_tmp3 rfl _ _ _) rfl ?_
            exact ⟨by rw [HLk.out]; rfl, ⟨HBw.out.trans ((below_drewN _ _).mono HBw.out.size)⟩⟩
end Go.Proofs.Ytebhclgnpnlekaa.Chk
