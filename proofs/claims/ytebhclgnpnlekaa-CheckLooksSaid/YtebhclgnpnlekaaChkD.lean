/- The document's late of chapter 21, by its walk. No condition. -/
import Derived.Test.YtebhclgnpnlekaaChkF
import Derived.Test.YtebhclgnpnlekaaChkL
import Derived.Test.YtebhclgnpnlekaaChkR
import Derived.Deep.CutRange
namespace Go.Proofs.Ytebhclgnpnlekaa.Chk
open Go.RowKit Go.Proofs.Ytebhclgnpnlekaa.B Go.Proofs.Ytebhclgnpnlekaa.Cmd Go.Proofs.Ytebhclgnpnlekaa.Agg Go.Proofs.Ytebhclgnpnlekaa.Ent Go.Proofs.Ytebhclgnpnlekaa.Ord
theorem zeroP : (Try.prog.info? 172).map (fun i => i.zero) = some (some (.agg #[.int .i64 0, .int .i64 0])) := by kernel_rfl
theorem contains_take_succ (had : List Int) (j : Nat) (hj : j < had.length) (id : Int) : (had.take (j + 1)).contains id = ((had.take j).contains id || (had[j] == id)) := by
  rw [List.take_succ_eq_append_getElem hj, List.contains_eq_any_beq, List.contains_eq_any_beq, List.any_append]
  simp [BEq.comm]
theorem mem_once {L : List QE} {x a : QE} {had : List Int} {id : Int} (hx : x ∈ own L) (ha : a ∈ own L) (hid : a.id = id) (b0 b1 b2 b3 : Bool) (h0 : (x.id != id) = b0) (h1 : (x.er.c.sym == a.er.c.sym) = b1) (h2 : decide (x.er.v.t < a.er.v.t) = b2) (h3 : had.contains x.id = b3) :
    lateQ a had id x = if (!b3 && b0 && b1 && b2) = true then some (x.id, id) else none := by
  unfold lateQ
  by_cases e0 : x.id = id
  · have e1 : x = a := own_once L x hx a ha (e0.trans hid.symm)
    have : b0 = false := by rw [← h0]; simp [e0]
    subst this e1
    simp [QE.t]
  · have : b0 = true := by rw [← h0]; simpa using e0
    subst this h1 h2 h3
    by_cases e1 : x.er.c.sym = a.er.c.sym <;> by_cases e2 : x.er.v.t < a.er.v.t <;> cases had.contains x.id <;> simp [QE.t, e1, e2]
set_option maxHeartbeats 16000000 in
set_option maxRecDepth 100000 in
theorem late21_calls (A B : Option Addr) (c d : Nat) (L : List QE) (had : List Int) (o0 o' : Option Pair) (I : Nat → Prop) (w : World) (h : Rep.Row qeRep I w A L) (h' : Rep.Row (Rep.int .i64) I w B had) (hl : L.length ≤ 100000) (p1 p2 : Int) (n0 : Bool) (hp1 : (bestP o0).1 = p1) (hp2 : (bestP o0).2 = p2) (hn0 : o0.isNone = n0) (ho : lateTo L had o0 had.length = o') :
    Calls Try.prog 133 #[.agg #[.slice A L.length c, .slice B had.length d], .agg #[.int .i64 p1, .int .i64 p2], .bool n0] w fun r w' => r = .returned (.tuple #[.agg (pc (bestP o')), .bool o'.isNone]) ∧ Hold (Below w.heap.size w w') := by
  have hm := h.len_le
  have hm' := h'.len_le
  obtain ⟨hv, hhv⟩ : ∃ b, w.heap.size = b := ⟨_, rfl⟩
  obtain ⟨b4, hb4⟩ : ∃ b, hv + 1 = b := ⟨_, rfl⟩
  obtain ⟨b6, hb6⟩ : ∃ b, b4 + 1 = b := ⟨_, rfl⟩
  obtain ⟨W, hW⟩ : ∃ W, ((w.alloc (.cells #[.slice A L.length c, .slice B had.length d] 184)).alloc (.cells #[.int .i64 p1, .int .i64 p2] 172)).alloc (.cells #[.int .i64 0, .int .i64 0] 172) = W := ⟨_, rfl⟩
  have hB : Bs w W [(hv, 184, #[.slice A L.length c, .slice B had.length d]), (b4, 172, #[.int .i64 p1, .int .i64 p2]), (b6, 172, #[.int .i64 0, .int .i64 0])] := by
    have h1 := (((Bs.nil w).alloc #[.slice A L.length c, .slice B had.length d] 184).alloc #[.int .i64 p1, .int .i64 p2] 172).alloc #[.int .i64 0, .int .i64 0] 172
    rw [hW] at h1
    simpa [hhv, hb4, hb6] using h1
  have v0 : W.cell? ⟨hv, 0, none⟩ = some (.slice A L.length c) := hB.cell 0 rfl 0
  have v1 : W.cell? ⟨hv, 1, none⟩ = some (.slice B had.length d) := hB.cell 0 rfl 1
  have hbel := hB.below
  have HOw := Hold.mk (own21_calls A B c had.length d L (fun k => k < w.heap.size) W (fun k hk => Nat.lt_of_lt_of_le hk hbel.size) (h.move fun k _ hlt => ⟨hlt, hbel.block k hlt⟩) hl)
  have HRB : Hold (Rep.Row (Rep.int .i64) (fun k => k ≠ b4) W B had) := ⟨h'.move fun k _ hlt => ⟨by omega, hbel.block k hlt⟩⟩
  have HN : Hold (hv ≠ b4 ∧ hv < W.heap.size ∧ b4 < W.heap.size ∧ b6 < W.heap.size ∧ b6 ≠ b4 ∧ w.heap.size ≤ b4 ∧ w.heap.size ≤ b6) := ⟨by omega, hB.lt 0 rfl, hB.lt 1 rfl, hB.lt 2 rfl, by omega, by omega, by omega⟩
  have H4 : Hold (W.heap[b4]? = some (.cells #[.int .i64 (bestP o0).1, .int .i64 (bestP o0).2] 172 (0, 0))) := ⟨by rw [hp1, hp2]; exact (hB.at_ 1 _ _ _ rfl).1⟩
  have H6 : Hold (W.heap[b6]? = some (.cells #[.int .i64 0, .int .i64 0] 172 (0, 0))) := ⟨(hB.at_ 2 _ _ _ rfl).1⟩
  have HBl := Hold.mk hbel
  have HO := Hold.mk ho
  have HML : Hold ((own L).length ≤ 100000) := ⟨Nat.le_trans (own_len L) hl⟩
  have HNw : Hold (∀ k, k < w.heap.size → k ≠ b4) := ⟨fun k hk => by omega⟩
  obtain ⟨M, hMe⟩ : ∃ M, own L = M := ⟨_, rfl⟩
  rw [hMe] at HOw HML
  have HMe := Hold.mk hMe
  have HV1 := Hold.mk v1
  have HN0 := Hold.mk hn0
  clear h h' hl ho hB hbel hMe hp1 hp2 hn0
  go_enter Try.func133, Try.ntmps133
  go_wp2_with (go_at_call 152; with_reducible refine HOw.out.mono ?_; rintro r w2 ⟨v, rfl, HM⟩; obtain ⟨MA, mc, rfl, _, _⟩ := HM.out.form)
  have hb2 := HM.out.bel
  have HV : Hold (w2.cell? ⟨hv, 1, none⟩ = some (.slice B had.length d)) := ⟨(below_cell hb2 (p := ⟨hv, 1, none⟩) HN.out.2.1).trans HV1.out⟩
  have HRB2 : Hold (Rep.Row (Rep.int .i64) (fun k => k ≠ b4) w2 B had) := ⟨HRB.out.below hb2⟩
  have HRM2 : Hold (Rep.Row qeRep (fun k => k ≠ b4) w2 MA M) := ⟨HM.out.own.row.move fun k hk _ => ⟨hk.elim (fun h => HNw.out k h) (fun h e => by have := (HM.out.own.block_lt k h).1; have := HN.out.2.2.1; omega), rfl⟩⟩
  have HN2 : Hold (hv ≠ b4 ∧ hv < w2.heap.size) := ⟨HN.out.1, Nat.lt_of_lt_of_le HN.out.2.1 hb2.size⟩
  have HBl2 : Hold (Below w.heap.size w w2) := ⟨HBl.out.trans (hb2.mono HBl.out.size)⟩
  have HP0 : Hold (PI b4 w2 w2 o0) := ⟨⟨(hb2.block b4 HN.out.2.2.1).trans H4.out, Fr.refl _ _⟩⟩
  have H62 : Hold (w2.heap[b6]? = some (.cells #[.int .i64 0, .int .i64 0] 172 (0, 0)) ∧ b6 < w2.heap.size ∧ b6 ≠ b4) := ⟨(hb2.block b6 HN.out.2.2.2.1).trans H6.out, Nat.lt_of_lt_of_le HN.out.2.2.2.1 hb2.size, HN.out.2.2.2.2.1⟩
  have HWb : Hold (w.heap.size ≤ b4 ∧ w.heap.size ≤ b6) := ⟨HN.out.2.2.2.2.2⟩
  have hmM : M.length ≤ 9223372036854775807 := by have := HML.out; omega
  clear v0 v1 hW hhv hb2 HM HOw HRB HN HBl HV1 H4 H6 hb4 hb6 HNw
  go_loopw [2, 9] (fun n s wr => ∃ i : Nat, i ≤ had.length ∧ s = .int .i64 (i : Int) ∧ ∃ o, n = .bool o.isNone ∧ Hold (lateTo L had o0 i = o) ∧ Hold (PI b4 w2 wr o)) (fun _ s _ => had.length - (intOf s).toNat)
  case atStart => exact ⟨0, by omega, rfl, o0, by rw [HN0.out], ⟨rfl⟩, HP0⟩
  case round =>
    obtain ⟨i, hi, rfl, o, rfl, HLo, HI⟩ := hrel
    have v1 := (HI.out.fr.cell (p := ⟨hv, 1, none⟩) HN2.out.2 HN2.out.1).trans HV.out
    by_cases hlt : i < had.length
    · have l1 : (i : Int) < (had.length : Int) := by omega
      have hrb := row_frD HRB2.out HI.out.fr
      obtain ⟨bd, rfl, c0⟩ := row_i hrb i hlt
      have hsu := lateTo_succ L had o0 i hlt
      obtain ⟨id, hid⟩ : ∃ id, had[i] = id := ⟨_, rfl⟩
      rw [hid] at c0 hsu
      rw [HLo.out, HMe.out] at hsu
      have HSu := Hold.mk hsu
      obtain ⟨kk, hkk⟩ : ∃ kk, findI M id = kk := ⟨_, rfl⟩
      have HFd := Hold.mk (find_calls MA mc M.length M id _ wr rfl (row_frD HRM2.out HI.out.fr) kk hkk)
      have HPl := Hold.mk (place M id)
      have hkk2 : firstOf (isId id) M = kk := hkk
      rw [hkk2] at HPl
      obtain ⟨b0, hb0⟩ : ∃ b, decide (kk < 0) = b := ⟨_, rfl⟩
      have HId := Hold.mk hid
      have HI0 : Hold (PI b4 w2 wr o) := HI
      have HRBr : Hold (∀ W, Below wr.heap.size wr W → Rep.Row (Rep.int .i64) (fun k => k ≠ b4) W (some bd) had) := ⟨fun W hW => hrb.below hW⟩
      have HV1r : Hold (∀ W, Below wr.heap.size wr W → W.cell? ⟨hv, 1, none⟩ = some (.slice (some bd) had.length d)) := ⟨fun W hW => (below_cell hW (p := ⟨hv, 1, none⟩) (Nat.lt_of_lt_of_le HN2.out.2 HI.out.fr.size)).trans v1⟩
      clear hid hsu hrb hkk hkk2 HLo
      obtain ⟨w3, hw3⟩ : ∃ w3, wr = w3 := ⟨_, rfl⟩
      rw [hw3] at c0 v1 HI HFd HI0 HRBr HV1r ⊢
      clear hw3
      go_wp2_with (go_at_call 157; refine HFd.out.mono ?_; rintro r w4 ⟨rfl, rfl⟩)
      clear HFd c0 v1
      go_loopw [11, 12] (fun t s wr => ∃ j : Nat, j ≤ i ∧ s = .int .i64 (j : Int) ∧ t = .bool (b0 || (had.take j).contains id) ∧ Hold (Below w3.heap.size w3 wr)) (fun _ s _ => i - (intOf s).toNat)
      case atStart => exact ⟨0, by omega, rfl, by simp, ⟨Below.refl _ _⟩⟩
      case round =>
        obtain ⟨j, hj, rfl, rfl, HB⟩ := hrel
        have v1 := HV1r.out wr HB.out
        by_cases hji : j < i
        · have l2 : (j : Int) < (i : Int) := by omega
          have l3 : (j : Int) < (had.length : Int) := by omega
          have hjl : j < had.length := by omega
          have hr := HRBr.out wr HB.out
          obtain ⟨bd', e1, c0⟩ := row_i hr i hlt
          cases e1
          obtain ⟨bd', e1, cj⟩ := row_i hr j hjl
          cases e1
          have hct := contains_take_succ had j hjl id
          rw [HId.out] at c0
          obtain ⟨hj2, hhj⟩ : ∃ z, had[j] = z := ⟨_, rfl⟩
          rw [hhj] at cj hct
          obtain ⟨e, he⟩ : ∃ e, (hj2 == id) = e := ⟨_, rfl⟩
          rw [he] at hct
          obtain ⟨t, ht⟩ : ∃ t, (b0 || (had.take j).contains id) = t := ⟨_, rfl⟩
          have HT : Hold ((b0 || (had.take (j + 1)).contains id) = (t || e)) := ⟨by rw [hct, ← Bool.or_assoc, ht]⟩
          rw [ht]
          clear hct hhj hr ht
          go_upto_region 10 with (fail)
          cases t
          · go_big_quiet (fail)
            go_wp2
            refine ⟨⟨j + 1, ?_, ?_, ?_, ?_⟩, ?_⟩
            · omega
            · go_num
            · rw [HT.out]; simp
            · exact ⟨HB.out.trans ((below_drewN wr nq).mono HB.out.size)⟩
            · simp only [intOf]; omega
          · go_big_quiet (fail)
            go_wp2
            refine ⟨⟨j + 1, ?_, ?_, ?_, ?_⟩, ?_⟩
            · omega
            · go_num
            · rw [HT.out]; simp
            · exact ⟨HB.out.trans ((below_drewN wr nq).mono HB.out.size)⟩
            · simp only [intOf]; omega
        · obtain ⟨jj, hjj⟩ : ∃ jj, j = jj := ⟨_, rfl⟩
          have hje : j = i := by omega
          have l2 : ¬ (j : Int) < (i : Int) := by omega
          obtain ⟨bad, hbad⟩ : ∃ t, (b0 || (had.take j).contains id) = t := ⟨_, rfl⟩
          rw [hbad]
          have HBad : Hold ((b0 || (had.take i).contains id) = bad) := ⟨by rw [← hje]; exact hbad⟩
          have HJ0 : Hold (PI b4 w2 wr o) := ⟨HI0.out.below HB.out⟩
          obtain ⟨bd', e1, c0⟩ := row_i (HRBr.out wr HB.out) i hlt
          cases e1
          rw [HId.out] at c0
          have HV1n : Hold (∀ W, Below wr.heap.size wr W → W.cell? ⟨hv, 1, none⟩ = some (.slice (some bd) had.length d)) := ⟨fun W hW => HV1r.out W (HB.out.trans (hW.mono HB.out.size))⟩
          have HRBn : Hold (∀ W, Below wr.heap.size wr W → Rep.Row (Rep.int .i64) (fun k => k ≠ b4) W (some bd) had) := ⟨fun W hW => HRBr.out W (HB.out.trans (hW.mono HB.out.size))⟩
          clear hbad hje hjj jj HB HI0 HRBr HV1r
          obtain ⟨b13, hb13⟩ : ∃ b, wr.heap.size = b := ⟨_, rfl⟩
          obtain ⟨W5, hW5⟩ : ∃ W, wr.alloc (.cells #[.int .i64 id, .int .i64 0] 172) = W := ⟨_, rfl⟩
          have hal : Below wr.heap.size wr W5 := by rw [← hW5]; exact (Below.refl _ _).alloc (Nat.le_refl _) _
          have hz5 : W5.heap[b13]? = some (.cells #[.int .i64 id, .int .i64 0] 172 (0, 0)) := by rw [← hW5, ← hb13]; exact Array.getElem?_push_size ..
          obtain ⟨y1, hy1⟩ : ∃ y, (bestP o).1 = y := ⟨_, rfl⟩
          obtain ⟨y2, hy2⟩ : ∃ y, (bestP o).2 = y := ⟨_, rfl⟩
          obtain ⟨n, hn⟩ : ∃ n, o.isNone = n := ⟨_, rfl⟩
          obtain ⟨q, hq⟩ : ∃ q, (n || lessP (id, 0) (y1, y2)) = q := ⟨_, rfl⟩
          have HPd : Hold (put o (if bad = true then some (id, 0) else none) = if (bad && q) = true then some (id, 0) else o) := ⟨by rw [put_doc, hn, ← hq, ← hy1, ← hy2]⟩
          have HJ5 : Hold (PI b4 w2 W5 o) := ⟨HJ0.out.below hal⟩
          have hb45 : W5.heap[b4]? = some (.cells #[.int .i64 y1, .int .i64 y2] 172 (0, 0)) := by rw [← hy1, ← hy2]; exact HJ5.out.blk
          have t0 : W5.cell? ⟨b13, 0, none⟩ = some (.int .i64 id) := cell_heap hz5 0
          have t1 : W5.cell? ⟨b13, 1, none⟩ = some (.int .i64 0) := cell_heap hz5 1
          have g0 : W5.cell? ⟨b4, 0, none⟩ = some (.int .i64 y1) := cell_heap hb45 0
          have g1 : W5.cell? ⟨b4, 1, none⟩ = some (.int .i64 y2) := cell_heap hb45 1
          have HLs := Hold.mk (less_calls' id 0 y1 y2 n W5 q hq)
          have H13 := Hold.mk hz5
          have H45 := Hold.mk hb45
          have HHn := Hold.mk hn
          have v1 := HV1n.out wr (Below.refl _ _)
          have v15 := HV1n.out W5 hal
          have HW5 := Hold.mk hW5
          rw [hn]
          clear hal hz5 hb45 hy1 hy2 hq hn hW5
          go_upto_region 12 with (fail)
          try simp only [Act.put, List.setIfInBounds_toArray, List.set_cons_zero, List.set_cons_succ]
          rw [HW5.out]
          clear hb13 c0 v1
          go_upto_region 13 with (go_at_call 156; refine HLs.out.mono ?_; rintro r W6 ⟨rfl, HB6⟩)
          try simp only [Act.put, List.setIfInBounds_toArray, List.set_cons_zero, List.set_cons_succ]
          clear t0 t1 g0 g1 v15
          obtain ⟨bq, hbq⟩ : ∃ t, (bad && q) = t := ⟨_, rfl⟩
          rw [hbq] at HPd
          have HBq := Hold.mk hbq
          clear hbq
          go_cut [70] from 22 to 165 (fun s70 wx => s70 = .bool bq ∧ Hold (W6 = wx))
          case first =>
            cases bad
            · go_wp2_with fail
              go_meet
              case rel => exact ⟨by rw [← HBq.out]; rfl, ⟨rfl⟩⟩
            · go_wp2_with fail
              go_meet
              case rel => exact ⟨by rw [← HBq.out]; simp, ⟨rfl⟩⟩
          case rest =>
          obtain ⟨rfl, hWc⟩ := hcut
          have hWe := hWc.out
          subst hWe
          clear hWc HBq
          go_upto_if 70 with (fail)
          go_cut [2, 9] from 22 to 165 (fun s2 s9 wx => s9 = .int .i64 (i : Int) ∧ ∃ o1, s2 = .bool o1.isNone ∧ Hold (put o (if bad = true then some (id, 0) else none) = o1) ∧ Hold (PI b4 w2 wx o1))
          case first =>
            have HJ6 : Hold (PI b4 w2 W6 o) := ⟨HJ5.out.below HB6.out⟩
            cases bq
            · go_wp2_with fail
              go_meet
              case rel => exact ⟨rfl, o, congrArg Value.bool HHn.out.symm, ⟨by rw [HPd.out]; rfl⟩, HJ6⟩
            · have h136 := (HB6.out.block b13 (Array.getElem?_eq_some_iff.1 H13.out).1).trans H13.out
              have h46 := (HB6.out.block b4 (Array.getElem?_eq_some_iff.1 H45.out).1).trans H45.out
              have t0 : W6.cell? ⟨b13, 0, none⟩ = some (.int .i64 id) := cell_heap h136 0
              have t1 : W6.cell? ⟨b13, 1, none⟩ = some (.int .i64 0) := cell_heap h136 1
              have g0 : W6.cell? ⟨b4, 0, none⟩ = some (.int .i64 y1) := cell_heap h46 0
              have g1 : W6.cell? ⟨b4, 1, none⟩ = some (.int .i64 y2) := cell_heap h46 1
              have z4 : ∀ k, W6.frozen? ⟨b4, k, none⟩ = false := (fun k => by simp [World.frozen?, h46])
              have H46 := Hold.mk h46
              clear h136 h46
              go_wp2_with fail
              obtain ⟨s1, s2⟩ := set2 H46.out (.int .i64 id) (.int .i64 0)
              go_meet
              case rel => exact ⟨rfl, some (id, 0), rfl, ⟨by rw [HPd.out]; rfl⟩, ⟨⟨s1, HJ6.out.fr.trans s2 (fun _ _ h => h)⟩⟩⟩
          case rest =>
            obtain ⟨rfl, o1, rfl, HO1, HI1⟩ := hcut
            clear HLs H13 H45 HHn HPd HJ5 HJ0 HRBn HV1n
            rcases HPl.out with ⟨e1, e2⟩ | ⟨k0, hk0, e1, e2, e3⟩
            · have hb : b0 = true := by rw [← hb0, e1]; rfl
              have hbt : bad = true := by rw [← HBad.out, hb]; rfl
              have HSu2 : Hold (lateTo L had o0 (i + 1) = o1) := ⟨by rw [HSu.out, lateAt_none e2, ← HO1.out, hbt]; rfl⟩
              have ek : kk = -1 := e1
              subst ek
              clear hb hbt e2 hb0
              go_wp2
              exact ⟨⟨i + 1, by omega, by go_num, o1, rfl, HSu2, HI1⟩, by simp [intOf]; omega⟩
            · subst e1
              have hb : b0 = false := by rw [← hb0]; exact decide_eq_false (by omega)
              have hbt : (had.take i).contains id = bad := by rw [← HBad.out, hb]; simp
              have HSu2 : Hold (lateTo L had o0 (i + 1) = leastFrom o1 (M.map (lateQ M[k0] (had.take i) id))) := ⟨by rw [HSu.out, lateAt_some e2, hbt, ← HO1.out]; rfl⟩
              have l4 : ¬ (k0 : Int) < 0 := by omega
              have l5 : decide ((k0 : Int) < 0) = false := decide_eq_false l4
              have l6 : (k0 : Int) < (M.length : Int) := by omega
              have HE3 := Hold.mk e3
              have HL1 : Hold (leastFrom o1 ((M.take 0).map (lateQ M[k0] (had.take i) id)) = o1) := ⟨rfl⟩
              clear hb hbt hb0 HO1 e2 e3 HPl HBad HSu
              as_aux_lemma =>
                go_wp2
                go_loopw [2, 15] (fun n s wr => ∃ q : Nat, q ≤ M.length ∧ s = .int .i64 (q : Int) ∧ ∃ o, n = .bool o.isNone ∧ Hold (leastFrom o1 ((M.take q).map (lateQ M[k0] (had.take i) id)) = o) ∧ Hold (PI b4 w2 wr o)) (fun _ s _ => M.length - (intOf s).toNat)
                case atStart => exact ⟨0, by omega, rfl, o1, rfl, HL1, HI1⟩
                case round =>
                  obtain ⟨q, hq, rfl, o, rfl, HO, HJ⟩ := hrel
                  by_cases hlq : q < M.length
                  · have l7 : (q : Int) < (M.length : Int) := by omega
                    have HJ0 : Hold (PI b4 w2 wr o) := HJ
                    have HRBr : Hold (Rep.Row (Rep.int .i64) (fun k => k ≠ b4) wr (some bd) had) := ⟨row_frD HRB2.out HJ.out.fr⟩
                    have HRMr : Hold (Rep.Row qeRep (fun k => k ≠ b4) wr MA M) := ⟨row_frD HRM2.out HJ.out.fr⟩
                    have HV1r : Hold (wr.cell? ⟨hv, 1, none⟩ = some (.slice (some bd) had.length d) ∧ hv < wr.heap.size) := ⟨(HJ.out.fr.cell (p := ⟨hv, 1, none⟩) HN2.out.2 HN2.out.1).trans HV.out, Nat.lt_of_lt_of_le HN2.out.2 HJ.out.fr.size⟩
                    clear HJ
                    obtain ⟨w3', hw3'⟩ : ∃ w3', wr = w3' := ⟨_, rfl⟩
                    rw [hw3'] at HJ0 HRBr HRMr HV1r ⊢
                    clear hw3'
                    go_wp2
                    go_loopw [16, 17] (fun t s wr => ∃ j : Nat, j ≤ i ∧ s = .int .i64 (j : Int) ∧ t = .bool ((had.take j).contains (M[q]).id) ∧ Hold (Below w3'.heap.size w3' wr)) (fun _ s _ => i - (intOf s).toNat)
                    case atStart => exact ⟨0, by omega, rfl, by simp, ⟨Below.refl _ _⟩⟩
                    case round =>
                      obtain ⟨j, hj, rfl, rfl, HB⟩ := hrel
                      have v1 := (below_cell HB.out (p := ⟨hv, 1, none⟩) HV1r.out.2).trans HV1r.out.1
                      obtain ⟨ad, px, hA, hpx, hpxl, hQ, hFq⟩ := row_qe (HRMr.out.below HB.out) q hlq
                      by_cases hji : j < i
                      · have l8 : (j : Int) < (i : Int) := by omega
                        have l9 : (j : Int) < (had.length : Int) := by omega
                        have hjl : j < had.length := by omega
                        subst hA
                        obtain ⟨bd', e1, cj⟩ := row_i (HRBr.out.below HB.out) j hjl
                        cases e1
                        have hct := contains_take_succ had j hjl (M[q]).id
                        obtain ⟨gx0, _, _⟩ := hQ.fld
                        obtain ⟨hj2, hhj⟩ : ∃ z, had[j] = z := ⟨_, rfl⟩
                        rw [hhj] at cj hct
                        obtain ⟨xi, hxi⟩ : ∃ z, (M[q]).id = z := ⟨_, rfl⟩
                        have gx0' : wr.cell? px = some (.int .i64 xi) := by rw [gx0]; exact congrArg _ (congrArg _ hxi)
                        rw [hxi] at hct ⊢
                        obtain ⟨e, he⟩ : ∃ e, (hj2 == xi) = e := ⟨_, rfl⟩
                        rw [he] at hct
                        obtain ⟨t, ht⟩ : ∃ t, (had.take j).contains xi = t := ⟨_, rfl⟩
                        rw [ht] at hct ⊢
                        have HT := Hold.mk hct
                        clear hct hhj ht gx0 hxi hQ hFq
                        go_upto_region 24 with (fail)
                        cases t
                        · go_big_quiet (fail)
                          go_wp2
                          refine ⟨⟨j + 1, ?_, ?_, ?_, ?_⟩, ?_⟩
                          · omega
                          · go_num
                          · rw [HT.out]; simp
                          · exact ⟨HB.out.trans ((below_drewN wr nq).mono HB.out.size)⟩
                          · simp only [intOf]; omega
                        · go_big_quiet (fail)
                          go_wp2
                          refine ⟨⟨j + 1, ?_, ?_, ?_, ?_⟩, ?_⟩
                          · omega
                          · go_num
                          · rw [HT.out]; simp
                          · exact ⟨HB.out.trans ((below_drewN wr nq).mono HB.out.size)⟩
                          · simp only [intOf]; omega
                      · have hje : j = i := by omega
                        have l8 : ¬ (j : Int) < (i : Int) := by omega
                        obtain ⟨ad', py, hA', hpy, hpyl, hQy, hFy⟩ := row_qe (HRMr.out.below HB.out) k0 hk0
                        subst hA
                        cases hA'
                        have hmx : M[q] ∈ own L := by rw [HMe.out]; exact List.getElem_mem hlq
                        have hmy : M[k0] ∈ own L := by rw [HMe.out]; exact List.getElem_mem hk0
                        have hid := HE3.out
                        have hss := step_succ o1 (lateQ M[k0] (had.take i) id) M q hlq
                        rw [HO.out] at hss
                        have HEy := Hold.mk hid
                        obtain ⟨x, hx⟩ : ∃ x, M[q] = x := ⟨_, rfl⟩
                        obtain ⟨y, hy⟩ : ∃ x, M[k0] = x := ⟨_, rfl⟩
                        rw [hx] at hQ hFq hmx hss ⊢
                        rw [hy] at hQy hFy hmy hss hid
                        obtain ⟨gx0, _, gx7⟩ := hQ.fld
                        obtain ⟨_, _, gx2, _⟩ := hQ.cmd
                        obtain ⟨_, _, gy7⟩ := hQy.fld
                        obtain ⟨_, _, gy2, _⟩ := hQy.cmd
                        obtain ⟨bd', e1, c0⟩ := row_i (HRBr.out.below HB.out) i hlt
                        cases e1
                        rw [HId.out] at c0
                        obtain ⟨ph, hph⟩ : ∃ p, bd.add i = p := ⟨_, rfl⟩
                        rw [hph] at c0
                        have HPh : Hold (ph.block < wr.heap.size) := ⟨World.block_lt_of_cell? _ _ c0⟩
                        have HPx := Hold.mk hpxl
                        have HPy := Hold.mk hpyl
                        have HHv : Hold (hv < wr.heap.size) := ⟨Nat.lt_of_lt_of_le HV1r.out.2 HB.out.size⟩
                        obtain ⟨b3, hb3⟩ : ∃ b, (had.take i).contains x.id = b := ⟨_, rfl⟩
                        obtain ⟨d0, hd0⟩ : ∃ b, (x.id != id) = b := ⟨_, rfl⟩
                        obtain ⟨d1, hd1⟩ : ∃ b, (x.er.c.sym == y.er.c.sym) = b := ⟨_, rfl⟩
                        obtain ⟨d2, hd2⟩ : ∃ b, decide (x.er.v.t < y.er.v.t) = b := ⟨_, rfl⟩
                        have hmo := mem_once hmx hmy hid d0 d1 d2 b3 hd0 hd1 hd2 hb3
                        rw [hmo] at hss
                        rw [hje, hb3]
                        have HJr : Hold (PI b4 w2 wr o) := ⟨HJ0.out.below HB.out⟩
                        have hB0 : Bs wr wr.drew [] := (Bs.nil wr).step ⟨rfl, rfl, rfl, Nat.le_refl _, fun _ _ => rfl⟩
                        have hS : Below wr.heap.size wr wr.drew := hB0.below
                        obtain ⟨y1, hy1⟩ : ∃ y, (bestP o).1 = y := ⟨_, rfl⟩
                        obtain ⟨y2, hy2⟩ : ∃ y, (bestP o).2 = y := ⟨_, rfl⟩
                        obtain ⟨n, hn⟩ : ∃ n, o.isNone = n := ⟨_, rfl⟩
                        obtain ⟨xi, hxi⟩ : ∃ z, x.er.c.id = z := ⟨_, rfl⟩
                        obtain ⟨xs, hxs⟩ : ∃ z, x.er.c.sym = z := ⟨_, rfl⟩
                        obtain ⟨xt, hxt⟩ : ∃ z, x.er.v.t = z := ⟨_, rfl⟩
                        obtain ⟨ys, hys⟩ : ∃ z, y.er.c.sym = z := ⟨_, rfl⟩
                        obtain ⟨yt, hyt⟩ : ∃ z, y.er.v.t = z := ⟨_, rfl⟩
                        have hd0' : (xi != id) = d0 := by rw [← hxi]; exact hd0
                        obtain ⟨q2, hq2⟩ : ∃ q, (n || lessP (xi, id) (y1, y2)) = q := ⟨_, rfl⟩
                        have HSs : Hold (leastFrom o1 ((M.take (q + 1)).map (lateQ M[k0] (had.take i) id)) = if ((!b3 && d0 && d1 && d2) && q2) = true then some (xi, id) else o) := ⟨by
                          have hxi' : x.id = xi := hxi
                          rw [hy, ← hss, put_doc, hn, ← hq2, ← hy1, ← hy2, hxi']⟩
                        rw [hxi] at gx0
                        rw [hxs] at gx2 hd1
                        rw [hxt] at gx7 hd2
                        rw [hys] at gy2 hd1
                        rw [hyt] at gy7 hd2
                        have hb4r : wr.heap[b4]? = some (.cells #[.int .i64 y1, .int .i64 y2] 172 (0, 0)) := by rw [← hy1, ← hy2]; exact HJr.out.blk
                        have HB4r := Hold.mk hb4r
                        have HHn := Hold.mk hn
                        have HQ2 := Hold.mk hq2
                        have HCx : Hold (∀ W, Below wr.heap.size wr W → W.cell? px = some (.int .i64 xi) ∧ W.cell? ⟨px.block, px.off + 2, none⟩ = some (.int .i64 xs) ∧ W.cell? ⟨px.block, px.off + 17, none⟩ = some (.int .i64 xt) ∧ W.cell? ⟨py.block, py.off + 2, none⟩ = some (.int .i64 ys) ∧ W.cell? ⟨py.block, py.off + 17, none⟩ = some (.int .i64 yt) ∧ W.cell? ⟨hv, 1, none⟩ = some (.slice (some bd) had.length d) ∧ W.cell? ph = some (.int .i64 id)) := ⟨fun W hW => ⟨(below_cell hW (p := px) HPx.out).trans gx0, (below_cell hW (p := ⟨px.block, px.off + 2, none⟩) HPx.out).trans gx2, (below_cell hW (p := ⟨px.block, px.off + 17, none⟩) HPx.out).trans gx7, (below_cell hW (p := ⟨py.block, py.off + 2, none⟩) HPy.out).trans gy2, (below_cell hW (p := ⟨py.block, py.off + 17, none⟩) HPy.out).trans gy7, (below_cell hW (p := ⟨hv, 1, none⟩) HHv.out).trans v1, (below_cell hW (p := ph) HPh.out).trans c0⟩⟩
                        rw [hn]
                        clear hQ hFq hmx hmy hss hQy hFy hid hmo hpxl hpyl hb4r hx hy hy1 hy2 hn hq2 hb3 hd0 hxi hxs hxt hys hyt hje HB gx2 gx7 gy2 gy7 HJ0
                        go_upto_region 25 with (fail)
                        try simp only [Act.put, List.setIfInBounds_toArray, List.set_cons_zero, List.set_cons_succ]
                        refine rg_start (S := fun w' => Below wr.heap.size wr w') 14 #[false, false, false, false, false, false, false, false, false, false, false, false, false, false] (by kernel_rfl) (by kernel_rfl) (by kernel_rfl) hS ?_
                        refine rg_take 0 100 (.move (.tmp 8)) (.slice (some ad) M.length mc) #[true, false, false, false, false, false, false, false, false, false, false, false, false, false] (by kernel_rfl) (by rfl) (by kernel_rfl) (by kernel_rfl) (by kernel_rfl) (fun _ _ _ h => h) (.inl ⟨by kernel_rfl, fun _ _ => by kernel_rfl⟩) hS ?_
                        simp only [List.setIfInBounds_toArray, List.set_cons_zero, List.set_cons_succ]
                        refine rg_take 1 101 (.move (.tmp 15)) (.int .i64 (q : Int)) #[true, true, false, false, false, false, false, false, false, false, false, false, false, false] (by kernel_rfl) (by rfl) (by kernel_rfl) (by kernel_rfl) (by kernel_rfl) (fun _ _ _ h => h) (.inl ⟨by kernel_rfl, fun _ _ => by kernel_rfl⟩) hS ?_
                        simp only [List.setIfInBounds_toArray, List.set_cons_zero, List.set_cons_succ]
                        refine rg_take 2 102 (.indexAddr 92 (.tmp 100) (.tmp 101)) (.pointer (some px)) #[true, true, true, false, false, false, false, false, false, false, false, false, false, false] (by kernel_rfl) (by rfl) (by kernel_rfl) (by kernel_rfl) (by kernel_rfl) (fun _ _ _ h => h) (.inl ⟨by kernel_rfl, fun _ _ => by go_simp⟩) hS ?_
                        simp only [List.setIfInBounds_toArray, List.set_cons_zero, List.set_cons_succ]
                        refine rg_take 3 103 (.fieldAddr 75 (.tmp 102) 0) (.pointer (some px)) #[true, true, true, true, false, false, false, false, false, false, false, false, false, false] (by kernel_rfl) (by rfl) (by kernel_rfl) (by kernel_rfl) (by kernel_rfl) (fun _ _ _ h => h) (.inl ⟨by kernel_rfl, fun _ _ => by go_simp⟩) hS ?_
                        simp only [List.setIfInBounds_toArray, List.set_cons_zero, List.set_cons_succ]
                        refine rg_take 4 104 (.fieldAddr 45 (.tmp 103) 0) (.pointer (some px)) #[true, true, true, true, true, false, false, false, false, false, false, false, false, false] (by kernel_rfl) (by rfl) (by kernel_rfl) (by kernel_rfl) (by kernel_rfl) (fun _ _ _ h => h) (.inl ⟨by kernel_rfl, fun _ _ => by go_simp⟩) hS ?_
                        simp only [List.setIfInBounds_toArray, List.set_cons_zero, List.set_cons_succ]
                        refine rg_take 5 105 (.load 3 (.tmp 104)) (.int .i64 xi) #[true, true, true, true, true, true, false, false, false, false, false, false, false, false] (by kernel_rfl) (by rfl) (by kernel_rfl) (by kernel_rfl) (by kernel_rfl) (fun _ _ _ h => h) (.inl ⟨by kernel_rfl, fun w hSw => by have hcell := (below_cell hSw (p := px) HPx.out).trans gx0; go_simp⟩) hS ?_
                        simp only [List.setIfInBounds_toArray, List.set_cons_zero, List.set_cons_succ]
                        refine rg_take 6 106 (.fieldAddr 184 (.tmp 3) 1) (.pointer (some ⟨hv, 1, none⟩)) #[true, true, true, true, true, true, true, false, false, false, false, false, false, false] (by kernel_rfl) (by rfl) (by kernel_rfl) (by kernel_rfl) (by kernel_rfl) (fun _ _ _ h => h) (.inl ⟨by kernel_rfl, fun _ _ => by go_simp⟩) hS ?_
                        simp only [List.setIfInBounds_toArray, List.set_cons_zero, List.set_cons_succ]
                        refine rg_take 7 107 (.load 22 (.tmp 106)) (.slice (some bd) had.length d) #[true, true, true, true, true, true, true, true, false, false, false, false, false, false] (by kernel_rfl) (by rfl) (by kernel_rfl) (by kernel_rfl) (by kernel_rfl) (fun _ _ _ h => h) (.inl ⟨by kernel_rfl, fun w hSw => by have hcell := (below_cell hSw (p := ⟨hv, 1, none⟩) HHv.out).trans v1; go_simp⟩) hS ?_
                        simp only [List.setIfInBounds_toArray, List.set_cons_zero, List.set_cons_succ]
                        refine rg_take 8 108 (.move (.tmp 9)) (.int .i64 (i : Int)) #[true, true, true, true, true, true, true, true, true, false, false, false, false, false] (by kernel_rfl) (by rfl) (by kernel_rfl) (by kernel_rfl) (by kernel_rfl) (fun _ _ _ h => h) (.inl ⟨by kernel_rfl, fun _ _ => by kernel_rfl⟩) hS ?_
                        simp only [List.setIfInBounds_toArray, List.set_cons_zero, List.set_cons_succ]
                        refine rg_take 9 109 (.indexAddr 22 (.tmp 107) (.tmp 108)) (.pointer (some ph)) #[true, true, true, true, true, true, true, true, true, true, false, false, false, false] (by kernel_rfl) (by rfl) (by kernel_rfl) (by kernel_rfl) (by kernel_rfl) (fun _ _ _ h => h) (.inl ⟨by kernel_rfl, fun _ _ => by go_simp⟩) hS ?_
                        simp only [List.setIfInBounds_toArray, List.set_cons_zero, List.set_cons_succ]
                        refine rg_take 10 110 (.load 3 (.tmp 109)) (.int .i64 id) #[true, true, true, true, true, true, true, true, true, true, true, false, false, false] (by kernel_rfl) (by rfl) (by kernel_rfl) (by kernel_rfl) (by kernel_rfl) (fun _ _ _ h => h) (.inl ⟨by kernel_rfl, fun w hSw => by have hcell := (below_cell hSw (p := ph) HPh.out).trans c0; go_simp⟩) hS ?_
                        simp only [List.setIfInBounds_toArray, List.set_cons_zero, List.set_cons_succ]
                        refine rg_take 11 111 (.build 172 #[(0, (.tmp 105)), (1, (.tmp 110))]) (.agg #[.int .i64 xi, .int .i64 id]) #[true, true, true, true, true, true, true, true, true, true, true, true, false, false] (by kernel_rfl) (by rfl) (by kernel_rfl) (by kernel_rfl) (by kernel_rfl) (fun _ _ _ h => h) (.inl ⟨by kernel_rfl, fun _ _ => by go_simp⟩) hS ?_
                        simp only [List.setIfInBounds_toArray, List.set_cons_zero, List.set_cons_succ]
                        refine rg_one 12 (some 18) (.alloc 172) #[true, true, true, true, true, true, true, true, true, true, true, true, true, false] (by kernel_rfl) (by kernel_rfl) (by rfl) (by kernel_rfl) (fun K hK => ?_)
                        refine wp_alloc zeroP hB0 (fun W6 g18 hB => ?_)
                        simp only [List.nil_append] at hB
                        have hS := hB.below
                        simp only [Act.put, List.setIfInBounds_toArray, List.set_cons_zero, List.set_cons_succ]
                        refine hK.out _ _ hS ?_
                        clear hK K
                        refine rg_one 13 none (.store 172 (.tmp 18) (.tmp 111)) #[true, true, true, true, true, true, true, true, true, true, true, true, true, true] (by kernel_rfl) (by kernel_rfl) (by rfl) (by kernel_rfl) (fun K hK => ?_)
                        have hzc := (hB.at_ 0 _ _ _ rfl).1
                        refine Ord.wp_skip (w' := (W6.setCell ⟨g18, 0, none⟩ (.int .i64 xi)).setCell ⟨g18, 1, none⟩ (.int .i64 id)) (by have hc0 := cell_heap hzc 0; have hc1 := cell_heap hzc 1; have hz : ∀ k, W6.frozen? ⟨g18, k, none⟩ = false := (fun k => by simp [World.frozen?, hzc]); go_simp) ?_
                        obtain ⟨s1, s2⟩ := set2 hzc (.int .i64 xi) (.int .i64 id)
                        obtain ⟨W7, hW7⟩ : ∃ W, (W6.setCell ⟨g18, 0, none⟩ (.int .i64 xi)).setCell ⟨g18, 1, none⟩ (.int .i64 id) = W := ⟨_, rfl⟩
                        rw [hW7] at s1 s2 ⊢
                        have hS : Below wr.heap.size wr W7 := ((below_fr hS s2 (by have := (hB.at_ 0 _ _ _ rfl).2; have h2 : wr.drew.heap.size = wr.heap.size := rfl; omega)))
                        simp only [Act.put, List.setIfInBounds_toArray, List.set_cons_zero, List.set_cons_succ]
                        refine hK.out _ _ hS ?_
                        clear hK K
                        refine wpAnyH_done (by kernel_rfl) ?_ _
                        have hb47 := (hS.block b4 (Array.getElem?_eq_some_iff.1 HB4r.out).1).trans HB4r.out
                        have t0 : W7.cell? ⟨g18, 0, none⟩ = some (.int .i64 xi) := cell_heap s1 0
                        have t1 : W7.cell? ⟨g18, 1, none⟩ = some (.int .i64 id) := cell_heap s1 1
                        have g0 : W7.cell? ⟨b4, 0, none⟩ = some (.int .i64 y1) := cell_heap hb47 0
                        have g1 : W7.cell? ⟨b4, 1, none⟩ = some (.int .i64 y2) := cell_heap hb47 1
                        have HLs := Hold.mk (less_calls' xi id y1 y2 n W7 q2 HQ2.out)
                        have HS7 := Hold.mk hS
                        have HG7 := Hold.mk s1
                        have HB47 := Hold.mk hb47
                        clear hS hB hB0 hzc s1 s2 hW7 hb47 gx0 v1 c0
                        go_upto_region 27 with (go_at_call 156; refine HLs.out.mono ?_; rintro r W8 ⟨rfl, HB8⟩)
                        try simp only [Act.put, List.setIfInBounds_toArray, List.set_cons_zero, List.set_cons_succ]
                        clear t0 t1 g0 g1
                        have hb8 : Below wr.heap.size wr W8 := HS7.out.trans (HB8.out.mono HS7.out.size)
                        obtain ⟨gx0, gx2, gx7, gy2, gy7, v1, c0⟩ := HCx.out W8 hb8
                        have HJ8 : Hold (PI b4 w2 W8 o) := ⟨HJr.out.below hb8⟩
                        have h48 := (HB8.out.block b4 (Array.getElem?_eq_some_iff.1 HB47.out).1).trans HB47.out
                        have h188 := (HB8.out.block g18 (Array.getElem?_eq_some_iff.1 HG7.out).1).trans HG7.out
                        have HFin : Hold (((!b3 && d0 && d1 && d2) && q2) = false → ∀ n, Hold (leastFrom o1 ((M.take (q + 1)).map (lateQ M[k0] (had.take i) id)) = o) ∧ Hold (PI b4 w2 (W8.drewN n) o)) := ⟨fun hf n => ⟨⟨by rw [HSs.out, hf]; rfl⟩, ⟨HJ8.out.below (below_drewN _ _)⟩⟩⟩
                        have t0 : W8.cell? ⟨g18, 0, none⟩ = some (.int .i64 xi) := cell_heap h188 0
                        have t1 : W8.cell? ⟨g18, 1, none⟩ = some (.int .i64 id) := cell_heap h188 1
                        have g0 : W8.cell? ⟨b4, 0, none⟩ = some (.int .i64 y1) := cell_heap h48 0
                        have g1 : W8.cell? ⟨b4, 1, none⟩ = some (.int .i64 y2) := cell_heap h48 1
                        have z4 : ∀ k, W8.frozen? ⟨b4, k, none⟩ = false := (fun k => by simp [World.frozen?, h48])
                        have H48 := Hold.mk h48
                        clear hb8 h48 h188
                        as_aux_lemma =>
                          cases b3
                          · cases d0
                            · go_big_quiet (fail)
                              go_wp2
                              obtain ⟨e1, e2⟩ := HFin.out rfl nq
                              exact ⟨⟨q + 1, by omega, by go_num, o, congrArg Value.bool HHn.out.symm, e1, e2⟩, by simp [intOf]; omega⟩
                            · cases d1
                              · go_big_quiet (fail)
                                go_wp2
                                obtain ⟨e1, e2⟩ := HFin.out rfl nq
                                exact ⟨⟨q + 1, by omega, by go_num, o, congrArg Value.bool HHn.out.symm, e1, e2⟩, by simp [intOf]; omega⟩
                              · cases d2
                                · go_big_quiet (fail)
                                  go_wp2
                                  obtain ⟨e1, e2⟩ := HFin.out rfl nq
                                  exact ⟨⟨q + 1, by omega, by go_num, o, congrArg Value.bool HHn.out.symm, e1, e2⟩, by simp [intOf]; omega⟩
                                · cases q2
                                  · go_big_quiet (fail)
                                    go_wp2
                                    obtain ⟨e1, e2⟩ := HFin.out rfl nq
                                    exact ⟨⟨q + 1, by omega, by go_num, o, congrArg Value.bool HHn.out.symm, e1, e2⟩, by simp [intOf]; omega⟩
                                  · have HSp : Hold (leastFrom o1 ((M.take (q + 1)).map (lateQ M[k0] (had.take i) id)) = some (xi, id)) := ⟨by rw [HSs.out]; rfl⟩
                                    go_big_quiet (fail)
                                    go_wp2
                                    have hd8 : (W8.drewN nq).heap[b4]? = some (.cells #[.int .i64 y1, .int .i64 y2] 172 (0, 0)) := H48.out
                                    obtain ⟨s1, s2⟩ := set2 hd8 (.int .i64 xi) (.int .i64 id)
                                    exact ⟨⟨q + 1, by omega, by go_num, some (xi, id), rfl, HSp, ⟨⟨s1, (HJ8.out.below (below_drewN _ nq)).fr.trans s2 (fun _ _ h => h)⟩⟩⟩, by simp [intOf]; omega⟩
                          · go_big_quiet (fail)
                            go_wp2
                            obtain ⟨e1, e2⟩ := HFin.out rfl nq
                            exact ⟨⟨q + 1, by omega, by go_num, o, congrArg Value.bool HHn.out.symm, e1, e2⟩, by simp [intOf]; omega⟩
                  · have hqe : q = M.length := by omega
                    have l7 : ¬ (q : Int) < (M.length : Int) := by omega
                    have HOn : Hold (lateTo L had o0 (i + 1) = o) := ⟨by
                      rw [HSu2.out, ← HO.out, hqe, List.take_length]⟩
                    clear hqe
                    go_wp2
                    exact ⟨⟨i + 1, by omega, by go_num, o, rfl, HOn, HJ⟩, by simp [intOf]; omega⟩
    · obtain rfl : i = had.length := by omega
      have ho := HLo.out
      rw [HO.out] at ho
      have hz6 := (HI.out.fr.block b6 H62.out.2.1 H62.out.2.2).trans H62.out.1
      have hz4 := HI.out.blk
      obtain ⟨y1, hy1⟩ : ∃ y, (bestP o).1 = y := ⟨_, rfl⟩
      obtain ⟨y2, hy2⟩ : ∃ y, (bestP o).2 = y := ⟨_, rfl⟩
      rw [hy1, hy2] at hz4
      have HPo : Hold (pc (bestP o') = #[.int .i64 y1, .int .i64 y2]) := ⟨by rw [ho, ← hy1, ← hy2]; rfl⟩
      have HSo : Hold (o'.isNone = o.isNone) := ⟨by rw [ho]⟩
      obtain ⟨n, hn⟩ : ∃ n, o.isNone = n := ⟨_, rfl⟩
      rw [hn] at HSo ⊢
      have c0 : wr.cell? ⟨b6, 0, none⟩ = some (.int .i64 0) := cell_heap hz6 0
      have c1 : wr.cell? ⟨b6, 1, none⟩ = some (.int .i64 0) := cell_heap hz6 1
      have z4 : ∀ k, wr.frozen? ⟨b6, k, none⟩ = false := (fun k => by simp [World.frozen?, hz6])
      have d0 : wr.cell? ⟨b4, 0, none⟩ = some (.int .i64 y1) := cell_heap hz4 0
      have d1 : wr.cell? ⟨b4, 1, none⟩ = some (.int .i64 y2) := cell_heap hz4 1
      have HZ6 := Hold.mk hz6
      have HBw : Hold (Below w.heap.size w wr) := ⟨below_fr HBl2.out HI.out.fr HWb.out.1⟩
      clear hz4 hz6 ho hy1 hy2 hn HLo
      go_wp2
      obtain ⟨s1, s2⟩ := set2 HZ6.out (.int .i64 y1) (.int .i64 y2)
      exact bodyPost_ret (res_pair rfl rfl rfl s1 rfl) rfl ⟨by rw [HPo.out, HSo.out]; rfl, ⟨below_fr HBw.out s2 HWb.out.2⟩⟩
end Go.Proofs.Ytebhclgnpnlekaa.Chk
