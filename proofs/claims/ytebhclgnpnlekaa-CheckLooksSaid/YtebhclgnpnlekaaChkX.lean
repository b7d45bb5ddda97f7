/- Law 21's CheckLooks, by its walk. No condition. -/
import Derived.Test.YtebhclgnpnlekaaChkZ
import Derived.Test.YtebhclgnpnlekaaChkS
import Derived.Test.YtebhclgnpnlekaaChkO
namespace Go.Proofs.Ytebhclgnpnlekaa.Chk
open Go.RowKit Go.Proofs.Ytebhclgnpnlekaa.B Go.Proofs.Ytebhclgnpnlekaa.Cmd Go.Proofs.Ytebhclgnpnlekaa.Agg Go.Proofs.Ytebhclgnpnlekaa.Ent Go.Proofs.Ytebhclgnpnlekaa.Ord
theorem nm0 : nameS 0 = n0 := rfl
theorem nm1 : nameS 1 = n1 := rfl
theorem nm2 : nameS 2 = n2 := rfl
theorem nm3 : nameS 3 = n3 := rfl
theorem nm4 : nameS 4 = n4 := rfl
set_option maxHeartbeats 8000000 in
set_option maxRecDepth 100000 in
theorem looks_calls (A : Option Addr) (c : Nat) (l : List ViewD) (f : Int) (w : World) (h : Rep.Row viewRep (fun _ => True) w A l) :
    Calls Try.prog 12 #[.slice A l.length c, .int .i64 f] w fun e w' => e = .returned (.bool true) ∧ Below w.heap.size w w' := by
  have H := Hold.mk h
  have hm := h.len_le
  clear h
  by_cases h6 : 6 < l.length
  · have t6 : (6 : Int) < (l.length : Int) := by omega
    go_enter Try.func12, Try.ntmps12
    go_wp2_with (go_at_call 72; refine (alive_calls _).mono ?_; rintro r w2 ⟨rfl, HB2⟩)
    go_ret
    exact ⟨rfl, HB2.out⟩
  · have t6 : ¬ (6 : Int) < (l.length : Int) := by omega
    have HL : Hold (l.length ≤ 6) := ⟨by omega⟩
    go_enter Try.func12, Try.ntmps12
    go_wp2
    go_loopw [5] (fun s wr => ∃ i : Nat, i ≤ l.length ∧ s = .int .i64 (i : Int) ∧ Hold (∀ v ∈ l.take i, v.1.length ≤ 1000) ∧ Hold (Below w.heap.size w wr)) (fun s _ => l.length - (intOf s).toNat)
    case atStart => exact ⟨0, by omega, rfl, ⟨by simp⟩, ⟨Below.refl _ _⟩⟩
    case round =>
      obtain ⟨i, hi, rfl, HA, HB⟩ := hrel
      by_cases hlt : i < l.length
      · have l1 : (i : Int) < (l.length : Int) := by omega
        have hT : l.take (i + 1) = l.take i ++ [l[i]] := List.take_succ_eq_append_getElem hlt
        obtain ⟨ad, pt, A1, c1, B1, d1, rfl, hp, hpl, k0, k1, _, _, _, _, hr, hr'⟩ := row_view (H.out.below HB.out) i hlt
        obtain ⟨v, hv⟩ : ∃ v, l[i] = v := ⟨_, rfl⟩
        rw [hv] at k0 k1 hr hr' hT
        obtain ⟨L, had⟩ := v
        have add1 : pt.add 1 = ⟨pt.block, pt.off + 1, none⟩ := by unfold Addr.add; rw [if_neg (by omega)]
        rw [add1] at k1
        have HFit := Hold.mk (fits13_calls A1 c1 _ L _ wr rfl hr)
        have hml := hr.len_le
        have hmh := hr'.len_le
        have HPl := Hold.mk hpl
        have HT := Hold.mk hT
        replace k0 : wr.cell? pt = some (.slice A1 L.length c1) := k0
        replace k1 : wr.cell? ⟨pt.block, pt.off + 1, none⟩ = some (.slice B1 had.length d1) := k1
        clear hr hr' hv add1 hT hpl
        go_upto_region 7 with (go_at_call 61; refine HFit.out.mono ?_; rintro r w1 ⟨b, rfl, hb, hb1⟩)
        try simp only [Act.put, List.setIfInBounds_toArray, List.set_cons_zero, List.set_cons_succ]
        replace k1 := (below_cell hb1 (p := ⟨pt.block, pt.off + 1, none⟩) HPl.out).trans k1
        have HB1 : Hold (Below w.heap.size w w1) := ⟨HB.out.trans (hb1.mono HB.out.size)⟩
        have HbL := Hold.mk hb
        clear hb hb1
        cases b
        · go_wp2_with (go_at_call 72; refine (alive_calls _).mono ?_; rintro r w2 ⟨rfl, HB2⟩)
          (try simp only [Exit.inBlock, Exit.then])
          go_ret
          exact ⟨rfl, HB1.out.trans (HB2.out.mono HB1.out.size)⟩
        · by_cases h40 : 40 < had.length
          · have t40 : (40 : Int) < (had.length : Int) := by omega
            have t40' := decide_eq_true t40
            go_wp2_with (go_at_call 72; refine (alive_calls _).mono ?_; rintro r w2 ⟨rfl, HB2⟩)
            (try simp only [Exit.inBlock, Exit.then])
            go_ret
            exact ⟨rfl, HB1.out.trans (HB2.out.mono HB1.out.size)⟩
          · have t40 : ¬ (40 : Int) < (had.length : Int) := by omega
            have t40' := decide_eq_false t40
            have HA1 : Hold (∀ v ∈ l.take (i + 1), v.1.length ≤ 1000) := ⟨by
              intro v hv
              rw [HT.out] at hv
              rcases List.mem_append.1 hv with hv | hv
              · exact HA.out v hv
              · rw [List.mem_singleton.1 hv]
                have : L.length ≤ 40 := HbL.out rfl
                show L.length ≤ 1000
                omega⟩
            go_wp2
            exact ⟨⟨i + 1, by omega, by go_num, HA1, HB1⟩, by simp [intOf]; omega⟩
      · obtain rfl : i = l.length := by omega
        rw [List.take_length] at HA
        obtain ⟨p, hp⟩ : ∃ p, look l = p := ⟨_, rfl⟩
        obtain ⟨p1, p2, p3⟩ := p
        have hl1 : l.length ≤ 1000 := by have := HL.out; omega
        have HLk := Hold.mk (look_calls A c l wr (H.out.below HB.out) hl1 HA.out _ hp)
        have HOf : Hold (∀ W, Below wr.heap.size wr W → Calls Try.prog 75 #[.slice A l.length c] W fun r w' => ∃ v, r = .returned v ∧ Hold (RO viewRep 184 (fun _ => True) W w' v l)) := ⟨fun W hW => of21_calls A c l W (H.out.below (HB.out.trans (hW.mono HB.out.size))) hl1 HA.out⟩
        have HL2 : Hold (∀ W MA mc, Rep.Row viewRep (fun _ => True) W MA l → Calls Try.prog 74 #[.slice MA l.length mc] W fun r w' => r = .returned (.tuple #[.int .i64 p1, .int .i64 p2, .int .i64 p3]) ∧ Hold (Below W.heap.size W w')) := ⟨fun W MA mc hr => look21_calls MA mc l _ W hr hl1 HA.out _ hp⟩
        have HNs : Hold (∀ W, Calls Try.prog 77 #[.int .i64 f] W fun r w' => r = .returned (.string (nameS f)) ∧ Hold (Below W.heap.size W w')) := ⟨fun W => name_calls f W⟩
        clear hp hl1 HA
        go_upto_region 11 with (first
          | (go_at_call 73; refine HLk.out.mono ?_; rintro r w1 ⟨rfl, HB1⟩)
          | (go_at_call 75; refine (HOf.out w1 HB1.out).mono ?_; rintro r w2 ⟨v, rfl, HM⟩; obtain ⟨MA, mc, rfl, _, _⟩ := HM.out.form)
          | (go_at_call 74; refine (HL2.out w2 MA mc (HM.out.own.row.move fun k _ _ => ⟨trivial, rfl⟩)).mono ?_; rintro r w3 ⟨rfl, HB3⟩))
        try simp only [Act.put, List.setIfInBounds_toArray, List.set_cons_zero, List.set_cons_succ]
        have h2 : Below w.heap.size w w2 := (HB.out.trans (HB1.out.mono HB.out.size)).trans (HM.out.bel.mono (Nat.le_trans HB.out.size HB1.out.size))
        have HB3w : Hold (Below w.heap.size w w3) := ⟨h2.trans (HB3.out.mono h2.size)⟩
        clear h2 HLk HOf HL2 HB HB1 HB3 HM
        by_cases hf0 : 0 ≤ f
        · by_cases hf4 : f ≤ 4
          · have hf : f = 0 ∨ f = 1 ∨ f = 2 ∨ f = 3 ∨ f = 4 := by omega
            clear hf0 hf4
            have HNm := Hold.mk (names_calls w3)
            rcases hf with rfl | rfl | rfl | rfl | rfl
            all_goals
              first
                | rw [nm0] at HNs
                | rw [nm1] at HNs
                | rw [nm2] at HNs
                | rw [nm3] at HNs
                | rw [nm4] at HNs
              go_wp2_with (first
                | (go_at_call 76; refine HNm.out.mono ?_; rintro r w4 ⟨rfl, rfl⟩)
                | (go_at_call 72; refine (alive_calls _).mono ?_; rintro r w5 ⟨rfl, HB5⟩)
                | (go_at_call 77; refine (HNs.out w5).mono ?_; rintro r w6 ⟨rfl, HB6⟩))
              go_ret
              exact ⟨rfl, (((HB3w.out.alloc HB3w.out.size _)).trans (HB5.out.mono (Nat.le_trans HB3w.out.size (by simp)))).trans (HB6.out.mono (Nat.le_trans (Nat.le_trans HB3w.out.size (by simp)) HB5.out.size))⟩
          · have HNe : Hold (nameS f = nE) := ⟨by unfold nameS; rw [if_neg (by omega), if_neg (by omega), if_neg (by omega), if_neg (by omega), if_neg (by omega)]⟩
            rw [HNe.out] at HNs
            have hE : nE.toList.isEmpty = true := by decide +kernel
            go_wp2_with (first
              | (go_at_call 72; refine (alive_calls _).mono ?_; rintro r w5 ⟨rfl, HB5⟩)
              | (go_at_call 77; refine (HNs.out w5).mono ?_; rintro r w6 ⟨rfl, HB6⟩))
            go_ret
            exact ⟨rfl, (HB3w.out.trans (HB5.out.mono HB3w.out.size)).trans (HB6.out.mono (Nat.le_trans HB3w.out.size HB5.out.size))⟩
        · have HNe : Hold (nameS f = nE) := ⟨by unfold nameS; rw [if_neg (by omega), if_neg (by omega), if_neg (by omega), if_neg (by omega), if_neg (by omega)]⟩
          rw [HNe.out] at HNs
          have hE : nE.toList.isEmpty = true := by decide +kernel
          go_wp2_with (first
            | (go_at_call 72; refine (alive_calls _).mono ?_; rintro r w5 ⟨rfl, HB5⟩)
            | (go_at_call 77; refine (HNs.out w5).mono ?_; rintro r w6 ⟨rfl, HB6⟩))
          go_ret
          exact ⟨rfl, (HB3w.out.trans (HB5.out.mono HB3w.out.size)).trans (HB6.out.mono (Nat.le_trans HB3w.out.size HB5.out.size))⟩
theorem looksL_calls (A : Option Addr) (c : Nat) (l : List ViewD) (f : Int) (w : World) (_hc : l.length ≤ c) (_hA : A = none → c = 0) (h : Rep.Row viewRep (fun _ => True) w A l) (_hw : (Lit.int .i64 f).wf = true) :
    Calls Try.prog 12 #[.slice A l.length c, .int .i64 f] w fun e w' => e = .returned (.bool true) ∧ Below w.heap.size w w' := looks_calls A c l f w h
end Go.Proofs.Ytebhclgnpnlekaa.Chk
