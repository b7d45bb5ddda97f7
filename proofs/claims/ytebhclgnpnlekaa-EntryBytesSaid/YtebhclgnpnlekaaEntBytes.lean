/- The law EntryBytes by its walk; no condition. Made by mk_entbytes.py. -/
import Derived.Test.YtebhclgnpnlekaaParse
import Derived.Test.YtebhclgnpnlekaaEntRd
import Derived.Test.YtebhclgnpnlekaaEnt4
import Derived.Deep.Cut
namespace Go.Proofs.Ytebhclgnpnlekaa.Ent
open Go.RowKit Go.Proofs.Ytebhclgnpnlekaa.B Go.Proofs.Ytebhclgnpnlekaa.Cmd Go.Proofs.Ytebhclgnpnlekaa.Agg Go.Proofs.Ytebhclgnpnlekaa.Rd
open Go.Proofs.Ytebhclgnpnlekaa.Oct (numOk numsOk encs encs_le nums)

theorem flagN_back (b : Bool) : (flagN b == 1) = b := by cases b <;> rfl
theorem flagN_le (b : Bool) : flagN b ≤ 1 := by cases b <;> decide
theorem okP_epOf {w : World} {e : ER} {lf la lw : List CmdD} (h : EAt w e lf la lw) : okP (epOf e lf la lw) = okE e lf la lw := by
  simp only [okP, okE, erOf, epOf, okMust, okFull, okNone, flagN_back, h.f.len, h.a.len, h.v.len]
/-- An entry is decoded from its bytes. -/
theorem dec_own {w : World} {e : ER} {lf la lw : List CmdD} (h : EAt w e lf la lw) (hok : okE e lf la lw = true) : decS (entBytes e lf la lw) = (epOf e lf la lw, 0) := by
  have h1 := entS_bytes (epOf e lf la lw) (epOf_ok h hok) []
  rw [← entBytes_eq] at h1
  rw [decS, h1]
  dsimp only
  rw [if_pos]
  exact ⟨rfl, rfl, flagN_le _, flagN_le _, by rw [okP_epOf h]; exact hok⟩
/-- What is decoded has the bytes. -/
theorem dec_bytes {bs : List Int} (hb : Rd.Bytes bs) (x y z : Option Addr × Nat) (h0 : (decS bs).2 = 0) :
    okE (erOf (decS bs).1 x y z) (decS bs).1.f.2 (decS bs).1.a.2 (decS bs).1.v.2 = true ∧ entBytes (erOf (decS bs).1 x y z) (decS bs).1.f.2 (decS bs).1.a.2 (decS bs).1.v.2 = bs := by
  unfold decS at h0 ⊢
  split at h0
  · rename_i hc
    rw [if_pos hc]
    dsimp only
    obtain ⟨k1, k2, k3, k4, k5⟩ := hc
    have hcn := entS_canon hb k1
    refine ⟨k5, ?_⟩
    rw [entBytes_eq]
    have hfl : ∀ {n : Int}, numOk n = true → n ≤ 1 → flagN (n == 1) = n := by
      intro n hn h1
      have : 0 ≤ n := by simp [numOk] at hn; exact hn.1
      have : n = 0 ∨ n = 1 := by omega
      rcases this with rfl | rfl <;> rfl
    have he : epOf (erOf (entS (bs, 0)).1 x y z) (entS (bs, 0)).1.f.2 (entS (bs, 0)).1.a.2 (entS (bs, 0)).1.v.2 = (entS (bs, 0)).1 := by
      unfold epOf erOf
      dsimp only
      rw [hfl hcn.1.fr k3, hfl hcn.1.dn k4]
    rw [he, ← k2]
    exact hcn.2.symm
  · exact absurd h0 (by decide)
theorem entBytes_len {w : World} {e : ER} {lf la lw : List CmdD} (hok : okE e lf la lw = true) (h : EAt w e lf la lw) : (entBytes e lf la lw).length ≤ 1000000000 := by
  obtain ⟨_, _, _, h4, h5, h6, h7⟩ := okE_iff.1 hok
  have k1 := encs_le (head_ok hok)
  have k2 := value_len (okMust_value h5 h.f.len)
  have k3 := encs_le (l := [e.ab]) (by simp [numsOk, okBallot_num h4])
  have k4 := value_len (okMust_value h6 h.a.len)
  have k5 := encs_le (flags_ok e.fr e.dn)
  have k6 := value_len (okMust_value h7 h.v.len)
  simp only [entBytes, entParts, List.flatten_cons, List.flatten_nil, List.length_append, List.append_nil]
  simp only [headNums, nums, List.length_cons, List.length_nil, List.length_append] at k1 k3 k5
  simp only [headNums, nums]
  omega
theorem yl_w {P : Program} {ops : Array Oper} {S S' : World → Prop} {o : Oper} {v : Value} {a : Act} (hs : ∀ w, S' w → S w) (h : YieldsIf P ops S o v a) : YieldsIf P ops S' o v a := by
  rcases h with ⟨h1, h2⟩ | h
  · exact .inl ⟨h1, fun w hw => h2 w (hs w hw)⟩
  · exact .inr h
theorem dec_nil : (decS []).2 = 2 := by decide +kernel
theorem dec_two (bs : List Int) : (decS bs).2 = 0 ∨ (decS bs) = (noEP, 2) := by
  unfold decS
  split
  · exact .inl rfl
  · exact .inr rfl
theorem noE_bad (x y z : Option Addr × Nat) : okE (erOf noEP x y z) [] [] [] = false := by
  rw [show okE (erOf noEP x y z) [] [] [] = okP noEP from rfl]
  decide

set_option maxHeartbeats 16000000 in
set_option maxRecDepth 100000 in
theorem bytes_law (cs0 : Array Value) (a0 : EntRd.EntD) (A1 : Option Addr) (c1 : Nat) (bs : List Int) (w : World) (hk0 : EntRd.entRep.K (fun _ => True) w a0 cs0.toList) (_h1 : bs.length ≤ c1) (n1 : A1 = none → c1 = 0) (r1 : Rep.Row (Rep.int .u8) (fun _ => True) w A1 bs) :
    Calls Try.prog 9 #[.agg cs0, .slice A1 bs.length c1] w fun e w' => e = .returned (.bool true) ∧ Below w.heap.size w w' := by
  obtain ⟨e, lf, la, lw, rfl, hE⟩ := EntRd.ent_read hk0
  have R1 := Hold.mk r1
  have N1 := Hold.mk n1
  have HBy : Hold (Rd.Bytes bs) := ⟨fun x hx => bounds_u8 (Rep.row_wf r1 x hx)⟩
  have m1 := r1.len_le
  have HE := Hold.mk hE
  clear r1 hE hk0 n1
  obtain ⟨g, hg⟩ : ∃ g, w.heap.size = g := ⟨_, rfl⟩
  obtain ⟨W, hW⟩ : ∃ W, w.alloc (.cells e.cells 70) = W := ⟨_, rfl⟩
  have hB := one_new w e.cells 70
  rw [hW, hg] at hB
  obtain ⟨fi, hfi⟩ : ∃ b, (decide (e.f.n ≤ 80) && decide (e.a.n ≤ 80) && decide (e.v.n ≤ 80)) = b := ⟨_, rfl⟩
  have HFi := Hold.mk hfi
  obtain ⟨ok, hok⟩ : ∃ b, okE e lf la lw = b := ⟨_, rfl⟩
  have HOk := Hold.mk hok
  clear hfi hok
  obtain ⟨bg, hbg⟩ : ∃ b, decide (3000 < (bs.length : Int)) = b := ⟨_, rfl⟩

  cases fi
  · go_enter Try.func9, Try.ntmps9
    go_wp2_with (first | (go_at_call 49; with_reducible refine (fits_calls e _ _ HFi.out).mono ?_; rintro r w1 ⟨rfl, hb1⟩; replace hB := hB.step hb1) | (go_at_call 51; with_reducible refine (alive_calls _).mono ?_; rintro r w1 ⟨rfl, hb1⟩; replace hB := hB.step hb1) | (with_reducible refine gateL 70 ?_; refine wpl_load isE rfl hB 0 rfl (ER.size _) rfl ?_))
    go_ret
    exact ⟨rfl, by first | exact hB.below | (rw [← hg]; exact hB.below)⟩
  · cases bg
    rotate_left
    · go_enter Try.func9, Try.ntmps9
      go_wp2_with (first | (go_at_call 49; with_reducible refine (fits_calls e _ _ HFi.out).mono ?_; rintro r w1 ⟨rfl, hb1⟩; replace hB := hB.step hb1) | (go_at_call 51; with_reducible refine (alive_calls _).mono ?_; rintro r w1 ⟨rfl, hb1⟩; replace hB := hB.step hb1) | (with_reducible refine gateL 70 ?_; refine wpl_load isE rfl hB 0 rfl (ER.size _) rfl ?_))
      go_ret
      exact ⟨rfl, by first | exact hB.below | (rw [← hg]; exact hB.below)⟩
    · have HL : Hold (bs.length ≤ 3000) := ⟨by have := of_decide_eq_false hbg; omega⟩
      obtain ⟨p, hv, hD⟩ : ∃ p h, decS bs = (p, h) := ⟨_, _, rfl⟩
      have HDB := Hold.mk (fun x y z => dec_bytes HBy.out x y z)
      have HDT := Hold.mk (dec_two bs)
      rw [hD] at HDB HDT
      have HD := Hold.mk hD
      clear hD
      dsimp only at HDB HDT
      cases ok
      · go_enter Try.func9, Try.ntmps9
        go_wp2_with (first | (go_at_call 49; with_reducible refine (fits_calls e _ _ HFi.out).mono ?_; rintro r w1 ⟨rfl, hb1⟩; replace hB := hB.step hb1) | (go_at_call 52; with_reducible refine (of_calls e _).mono ?_; rintro r w1 ⟨rfl, hb1⟩; replace hB := hB.step hb1) | (go_at_call 56; with_reducible refine (refRight_calls e lf la lw _ false (HE.out.below hB.below) HOk.out).mono ?_; rintro r w1 ⟨rfl, hb1⟩; replace hB := hB.step hb1) | (go_at_call 55; with_reducible refine (encode_wrong e lf la lw _ (HE.out.below hB.below) HOk.out).mono ?_; rintro r w1 ⟨rfl, hb1⟩; replace hB := hB.step hb1) | (with_reducible refine gateL 70 ?_; refine wpl_load isE rfl hB 0 rfl (ER.size _) rfl ?_))

        refine (decode_calls A1 c1 _ bs _ _ rfl (R1.out.below hB.below) N1.out (by have := HL.out; omega)).mono ?_
        rintro r X1 ⟨x1, y1, z1, rfl, HA1, HB1⟩
        rw [HD.out] at HA1
        rw [HD.out]
        dsimp only at HA1
        dsimp only
        obtain ⟨Y, hY⟩ : ∃ Y, erOf p x1 y1 z1 = Y := ⟨_, rfl⟩
        rw [hY] at HA1
        rw [hY]
        have HY := Hold.mk hY
        clear hY
        replace hB := hB.step HB1.out
        go_upto_region 14 with (first
          | (with_reducible refine gateA 70 ?_; refine wpl_allocX zeroE hB rfl ?_; intro X2 g12 hB HA2; simp only [List.cons_append, List.nil_append] at hB)
          | (with_reducible refine gateS 70 ?_; refine wpl_storeX (C' := ER.cells Y) isE rfl rfl hB 1 rfl (ER.size _) (ER.size _) (ER.one _) rfl ?_; intro X3 hB HF3; simp only [List.set] at hB))
        have hb13 : Below X1.heap.size X1 X3 := ⟨HF3.out.os.trans HA2.out.1.os, HF3.out.tape.trans HA2.out.1.tape, HF3.out.output.trans HA2.out.1.output, Nat.le_trans HA2.out.1.size HF3.out.size, fun k hk => (HF3.out.block k (by have := HA2.out.2.2; omega) (by have := HA2.out.2.1; omega)).trans (HA2.out.1.block k hk)⟩
        have HA1 := Hold.mk (HA1.out.below hb13)
        clear hb13 HF3 HA2 HB1
        go_wp2_with fail
        refine (parse_calls A1 c1 _ bs _ _ rfl (R1.out.below hB.below) N1.out (by have := HL.out; omega)).mono ?_
        rintro r X4 ⟨x2, y2, z2, rfl, HA4, HB4⟩
        rw [HD.out] at HA4
        rw [HD.out]
        dsimp only at HA4
        dsimp only
        obtain ⟨Z, hZ⟩ : ∃ Y, erOf p x2 y2 z2 = Y := ⟨_, rfl⟩
        rw [hZ] at HA4
        rw [hZ]
        have HZ := Hold.mk hZ
        clear hZ
        have HA1 := Hold.mk (HA1.out.below HB4.out)
        replace hB := hB.step HB4.out
        go_upto_region 15 with (first
          | (with_reducible refine gateA 75 ?_; refine wpl_allocX zeroD hB rfl ?_; intro X5 g14 hB HA5; simp only [List.cons_append, List.nil_append] at hB)
          | (with_reducible refine gateS 75 ?_; refine wpl_storeX (C' := ER.cells Z) isD rfl rfl hB 2 rfl (ER.size _) (ER.size _) (ER.one _) rfl ?_; intro X6 hB HF6; simp only [List.set] at hB))
        have hb46 : Below X4.heap.size X4 X6 := ⟨HF6.out.os.trans HA5.out.1.os, HF6.out.tape.trans HA5.out.1.tape, HF6.out.output.trans HA5.out.1.output, Nat.le_trans HA5.out.1.size HF6.out.size, fun k hk => (HF6.out.block k (by have := HA5.out.2.2; omega) (by have := HA5.out.2.1; omega)).trans (HA5.out.1.block k hk)⟩
        have HA1 := Hold.mk (HA1.out.below hb46)
        have HA4 := Hold.mk (HA4.out.below hb46)
        clear hb46 HF6 HA5 HB4
        go_wp2_with (first
          | (with_reducible refine gateL 70 ?_; refine wpl_load isE rfl hB 1 rfl (ER.size _) rfl ?_)
          | (with_reducible refine gateL 75 ?_; refine wpl_load isD rfl hB 2 rfl (ER.size _) rfl ?_))
        refine (same_true Y Z p.f.2 p.a.2 p.v.2 _ HA1.out.f HA4.out.f HA1.out.a HA4.out.a HA1.out.v HA4.out.v (by rw [← HY.out, ← HZ.out]; rfl) (by rw [← HY.out, ← HZ.out]; rfl) (by rw [← HY.out, ← HZ.out]; rfl) (by rw [← HY.out, ← HZ.out]; rfl) (by rw [← HY.out, ← HZ.out]; rfl) (by rw [← HY.out, ← HZ.out]; rfl) (by rw [← HY.out, ← HZ.out]; rfl) (by rw [← HY.out, ← HZ.out]; rfl) (by rw [← HY.out, ← HZ.out]; rfl) (by rw [← HY.out, ← HZ.out]; rfl)).mono ?_
        rintro r X7 ⟨rfl, hb7⟩
        have HA1 := Hold.mk (HA1.out.below hb7)
        replace hB := hB.step hb7
        clear HA4 hb7
        go_wp2_with (with_reducible refine gateL 70 ?_; refine wpl_load isE rfl hB 1 rfl (ER.size _) rfl ?_)
        rcases HDT.out with hz | hz
        · subst hz
          have hd := HDB.out x1 y1 z1 rfl
          rw [HY.out] at hd
          have HDO := Hold.mk hd
          clear hd
          refine (encode_right Y p.f.2 p.a.2 p.v.2 _ HA1.out HDO.out.1).mono ?_
          rintro r X8 ⟨B8, c8, rfl, R8, H8⟩
          rw [HDO.out.2] at R8
          rw [HDO.out.2]
          replace hB := hB.step H8.out
          go_wp2_with fail
          refine (alive_calls _).mono ?_
          rintro r X9 ⟨rfl, hb9⟩
          replace hB := hB.step hb9
          have q1 := Rep.row_string (P := Try.prog) (c := c8) Try.underlying25 Try.underlying5 Try.underlying9 (R8.out.below hb9)
          have q2 := Rep.row_string (P := Try.prog) (c := c1) Try.underlying25 Try.underlying5 Try.underlying9 (R1.out.below hB.below)
          go_wp2
          go_ret
          exact ⟨by simp, by first | exact hB.below | (rw [← hg]; exact hB.below)⟩
        · obtain ⟨rfl, rfl⟩ : p = noEP ∧ hv = 2 := by cases hz; exact ⟨rfl, rfl⟩
          clear hz
          refine (encode_wrong Y [] [] [] _ HA1.out (by rw [← HY.out]; exact noE_bad _ _ _)).mono ?_
          rintro r X8 ⟨rfl, hb8⟩
          replace hB := hB.step hb8
          go_wp2_with (go_at_call 51; with_reducible refine (alive_calls _).mono ?_; rintro r w1 ⟨rfl, hb1⟩; replace hB := hB.step hb1)
          go_ret
          exact ⟨by simp, by first | exact hB.below | (rw [← hg]; exact hB.below)⟩

      · obtain ⟨Q, hQ⟩ : ∃ Q, entBytes e lf la lw = Q := ⟨_, rfl⟩
        have HEnc : Hold (∀ W, EAt W e lf la lw → Calls Try.prog 55 #[.agg e.cells] W fun r w' => ∃ A1 c1, r = .returned (.tuple #[.slice A1 Q.length c1, .int .i64 0]) ∧ Hold (Rep.Row (Rep.int .u8) (fun _ => True) w' A1 Q) ∧ Hold (Below W.heap.size W w')) := ⟨fun W h => by
          rw [← hQ]; exact encode_right e lf la lw W h HOk.out⟩
        have HByt : Hold (∀ W, EAt W e lf la lw → Calls Try.prog 59 #[.agg e.cells] W fun r w' => ∃ A1 c1, r = .returned (.slice A1 Q.length c1) ∧ Hold (Rep.Row (Rep.int .u8) (fun _ => True) w' A1 Q) ∧ Hold (Below W.heap.size W w')) := ⟨fun W h => by
          rw [← hQ]; exact refBytes_calls e lf la lw W h HOk.out⟩
        have HDQ : Hold (decS Q = (epOf e lf la lw, 0)) := ⟨by rw [← hQ]; exact dec_own HE.out HOk.out⟩
        have HQl : Hold (Q.length ≤ 1000000000) := ⟨by rw [← hQ]; exact entBytes_len HOk.out HE.out⟩
        clear hQ
        go_enter Try.func9, Try.ntmps9
        go_wp2_with (first | (go_at_call 49; with_reducible refine (fits_calls e _ _ HFi.out).mono ?_; rintro r w1 ⟨rfl, hb1⟩; replace hB := hB.step hb1) | (go_at_call 52; with_reducible refine (of_calls e _).mono ?_; rintro r w1 ⟨rfl, hb1⟩; replace hB := hB.step hb1; have HQ := Hold.mk (HQ.out.below hb1)) | (go_at_call 56; with_reducible refine (refRight_calls e lf la lw _ true (HE.out.below hB.below) HOk.out).mono ?_; rintro r w1 ⟨rfl, hb1⟩; replace hB := hB.step hb1; have HQ := Hold.mk (HQ.out.below hb1)) | (go_at_call 55; with_reducible refine (HEnc.out _ (HE.out.below hB.below)).mono ?_; rintro r w1 ⟨A2, c2, rfl, HQ, HB1⟩; replace hB := hB.step HB1.out; have HBQ := Hold.mk (Below.refl w1.heap.size w1)) | (with_reducible refine gateL 70 ?_; refine wpl_load isE rfl hB 0 rfl (ER.size _) rfl ?_))

        refine (decode_calls A2 c2 _ Q _ _ rfl HQ.out (fun h => by
          have h0 : Q = [] := by
            rcases Q with _ | ⟨q, Q⟩
            · rfl
            · obtain ⟨ad, hc, _⟩ := HQ.out.2 (by simp)
              rw [h] at hc; cases hc
          have h1 := HDQ.out
          rw [h0] at h1
          have := dec_nil
          rw [h1] at this
          exact absurd (show (0 : Int) = 2 from this) (by decide)) HQl.out).mono ?_
        rintro r X1 ⟨x0, y0, z0, rfl, HA0, HB0⟩
        rw [HDQ.out] at HA0
        rw [HDQ.out]
        have HA0 : Hold (EAt X1 (erOf (epOf e lf la lw) x0 y0 z0) lf la lw) := HA0
        dsimp only
        obtain ⟨Y0, hY⟩ : ∃ Y, erOf (epOf e lf la lw) x0 y0 z0 = Y := ⟨_, rfl⟩
        rw [hY] at HA0
        rw [hY]
        have HY0 := Hold.mk hY
        clear hY
        replace hB := hB.step HB0.out
        have HQ := Hold.mk (HQ.out.below HB0.out)
        go_upto_region 10 with (first
          | (with_reducible refine gateA 70 ?_; refine wpl_allocX zeroE hB rfl ?_; intro X2 g9 hB HA2; simp only [List.cons_append, List.nil_append] at hB)
          | (with_reducible refine gateS 70 ?_; refine wpl_storeX (C' := ER.cells Y0) isE rfl rfl hB 1 rfl (ER.size _) (ER.size _) (ER.one _) rfl ?_; intro X3 hB HF3; simp only [List.set] at hB))
        have hb13 : Below X1.heap.size X1 X3 := ⟨HF3.out.os.trans HA2.out.1.os, HF3.out.tape.trans HA2.out.1.tape, HF3.out.output.trans HA2.out.1.output, Nat.le_trans HA2.out.1.size HF3.out.size, fun k hk => (HF3.out.block k (by have := HA2.out.2.2; omega) (by have := HA2.out.2.1; omega)).trans (HA2.out.1.block k hk)⟩
        have HA0 := Hold.mk (HA0.out.below hb13)
        have HQ := Hold.mk (HQ.out.below hb13)
        clear hb13 HF3 HA2 HB0
        have HA0d := Hold.mk (HA0.out.below (w' := X3.drew) ⟨rfl, rfl, rfl, Nat.le_refl _, fun _ _ => rfl⟩)
        have hS : Bs w X3.drew [(g, 70, e.cells), (g9, 70, Y0.cells)] := hB.drew
        have HQ := Hold.mk (HQ.out.drew)
        refine rg_start (S := fun w' => Bs w w' [(g, 70, e.cells), (g9, 70, Y0.cells)]) 5 #[false, false, false, false, false] (by kernel_rfl) (by kernel_rfl) (by kernel_rfl) hS ?_
        refine rg_take 0 60 (.load 70 (.tmp 9)) (.agg (ER.cells Y0)) #[true, false, false, false, false] (by kernel_rfl) (by rfl) (by kernel_rfl) (by kernel_rfl) (by kernel_rfl) (fun _ _ _ h => h) (yl isE (by kernel_rfl) 1 (by rfl) (ER.size _) (by kernel_rfl)) hS ?_
        simp only [List.setIfInBounds_toArray, List.set_cons_zero, List.set_cons_succ]
        refine rg_take 1 61 (.load 70 (.tmp 2)) (.agg (ER.cells e)) #[true, true, false, false, false] (by kernel_rfl) (by rfl) (by kernel_rfl) (by kernel_rfl) (by kernel_rfl) (fun _ _ _ h => h) (yl isE (by kernel_rfl) 0 (by rfl) (ER.size _) (by kernel_rfl)) hS ?_
        simp only [List.setIfInBounds_toArray, List.set_cons_zero, List.set_cons_succ]
        refine rg_one 2 (some 62) (.call ⟨.value (.func 52), #[.tmp 61], _⟩) #[true, true, true, false, false] (by kernel_rfl) (by kernel_rfl) (by rfl) (by kernel_rfl) (fun K hK => ?_)
        go_wp2_with fail
        refine (of_calls e _).mono ?_
        rintro r w8 ⟨rfl, hb8⟩
        dsimp only
        have hs2 := hS
        replace hS := hS.step hb8
        have HA0d := Hold.mk (HA0d.out.below hb8)
        have HQ := Hold.mk (HQ.out.below hb8)
        refine hK.out _ _ hS ?_
        clear hK K
        refine rg_one 3 (some 63) (.call ⟨.value (.func 58), #[.tmp 60, .tmp 62], _⟩) #[true, true, true, true, false] (by kernel_rfl) (by kernel_rfl) (by rfl) (by kernel_rfl) (fun K hK => ?_)
        go_wp2_with fail
        refine (same_true Y0 e lf la lw _ HA0d.out.f (HE.out.below hS.below).f HA0d.out.a (HE.out.below hS.below).a HA0d.out.v (HE.out.below hS.below).v (by rw [← HY0.out]; rfl) (by rw [← HY0.out]; rfl) (by rw [← HY0.out]; rfl) (by rw [← HY0.out]; rfl) (by rw [← HY0.out]; rfl) (by rw [← HY0.out]; exact flagN_back _) (by rw [← HY0.out]; exact flagN_back _) (by rw [← HY0.out]; rfl) (by rw [← HY0.out]; rfl) (by rw [← HY0.out]; rfl)).mono ?_
        rintro r w9 ⟨rfl, hb9⟩
        dsimp only
        replace hS := hS.step hb9
        have HQ := Hold.mk (HQ.out.below hb9)
        refine hK.out _ _ hS ?_
        clear hK K
        refine rg_one 4 (some 11) (.assign (.tmp 63)) #[true, true, true, true, true] (by kernel_rfl) (by kernel_rfl) (by rfl) (by kernel_rfl) (fun K hK => ?_)
        go_wp2_with fail
        refine hK.out _ _ hS ?_
        clear hK K
        refine wpAnyH_done (by kernel_rfl) ?_ _
        replace hB := hS
        go_upto_region 11 with fail
        have HQ := Hold.mk (HQ.out.drew)
        have hS := And.intro hB.drew HQ.out
        refine rg_start (S := fun w' => Bs w w' [(g, 70, e.cells), (g9, 70, Y0.cells)] ∧ Rep.Row (Rep.int .u8) (fun _ => True) w' A2 Q) 15 #[false, false, false, false, false, false, false, false, false, false, false, false, false, false, false] (by kernel_rfl) (by kernel_rfl) (by kernel_rfl) hS ?_
        refine rg_take 0 64 (.move (.tmp 6)) (.slice A2 Q.length c2) #[true, false, false, false, false, false, false, false, false, false, false, false, false, false, false] (by kernel_rfl) (by rfl) (by kernel_rfl) (by kernel_rfl) (by kernel_rfl) (fun _ _ _ h => h) (.inl ⟨by kernel_rfl, fun _ _ => by kernel_rfl⟩) hS ?_
        simp only [List.setIfInBounds_toArray, List.set_cons_zero, List.set_cons_succ]
        refine rg_take 1 65 (.convert 25 9 (.tmp 64)) (.string (strOfNums Q)) #[true, true, false, false, false, false, false, false, false, false, false, false, false, false, false] (by kernel_rfl) (by rfl) (by kernel_rfl) (by kernel_rfl) (by kernel_rfl) (fun _ _ _ h => h) (.inl ⟨by kernel_rfl, fun w' hw' => by have q := Rep.row_string (P := Try.prog) (c := c2) Try.underlying25 Try.underlying5 Try.underlying9 hw'.2; go_simp⟩) hS ?_
        simp only [List.setIfInBounds_toArray, List.set_cons_zero, List.set_cons_succ]
        refine rg_take 2 66 (.load 70 (.tmp 2)) (.agg (ER.cells e)) #[true, true, true, false, false, false, false, false, false, false, false, false, false, false, false] (by kernel_rfl) (by rfl) (by kernel_rfl) (by kernel_rfl) (by kernel_rfl) (fun _ _ _ h => h) (yl_w (fun _ h => h.1) (yl isE (by kernel_rfl) 0 (by rfl) (ER.size _) (by kernel_rfl))) hS ?_
        simp only [List.setIfInBounds_toArray, List.set_cons_zero, List.set_cons_succ]
        refine rg_one 3 (some 67) (.call ⟨.value (.func 52), #[.tmp 66], _⟩) #[true, true, true, true, false, false, false, false, false, false, false, false, false, false, false] (by kernel_rfl) (by kernel_rfl) (by rfl) (by kernel_rfl) (fun K hK => ?_)
        go_wp2_with fail
        refine (of_calls e _).mono ?_
        rintro r w8 ⟨rfl, hb8⟩
        dsimp only
        replace hS := And.intro (hS.1.step hb8) (hS.2.below hb8)
        refine hK.out _ _ hS ?_
        clear hK K
        refine rg_one 4 (some 68) (.call ⟨.value (.func 59), #[.tmp 67], _⟩) #[true, true, true, true, true, false, false, false, false, false, false, false, false, false, false] (by kernel_rfl) (by kernel_rfl) (by rfl) (by kernel_rfl) (fun K hK => ?_)
        go_wp2_with fail
        refine (HByt.out _ (HE.out.below hS.1.below)).mono ?_
        rintro r w9 ⟨A5, c5, rfl, R5, B5⟩
        dsimp only
        replace hS := And.intro (hS.1.step B5.out) (hS.2.below B5.out)
        have q5 := Rep.row_string (P := Try.prog) (c := c5) Try.underlying25 Try.underlying5 Try.underlying9 R5.out
        refine hK.out _ _ hS ?_
        clear hK K
        refine rg_one 5 (some 69) (.convert 25 9 (.tmp 68)) #[true, true, true, true, true, true, false, false, false, false, false, false, false, false, false] (by kernel_rfl) (by kernel_rfl) (by rfl) (by kernel_rfl) (fun K hK => ?_)
        go_wp2_with fail
        refine hK.out _ _ hS ?_
        clear hK K
        refine rg_take 6 70 (.binOp .neq 9 (.tmp 65) (.tmp 69) 9) (.bool false) #[true, true, true, true, true, true, true, false, false, false, false, false, false, false, false] (by kernel_rfl) (by rfl) (by kernel_rfl) (by kernel_rfl) (by kernel_rfl) (fun _ _ _ h => h) (.inl ⟨by kernel_rfl, fun _ _ => by go_simp⟩) hS ?_
        simp only [List.setIfInBounds_toArray, List.set_cons_zero, List.set_cons_succ]
        refine rg_take 7 71 (.move (.tmp 70)) (.bool false) #[true, true, true, true, true, true, true, true, false, false, false, false, false, false, false] (by kernel_rfl) (by rfl) (by kernel_rfl) (by kernel_rfl) (by kernel_rfl) (fun _ _ _ h => h) (.inl ⟨by kernel_rfl, fun _ _ => by kernel_rfl⟩) hS ?_
        simp only [List.setIfInBounds_toArray, List.set_cons_zero, List.set_cons_succ]
        refine rg_take 8 72 (.move (.tmp 10)) (.int .i64 0) #[true, true, true, true, true, true, true, true, true, false, false, false, false, false, false] (by kernel_rfl) (by rfl) (by kernel_rfl) (by kernel_rfl) (by kernel_rfl) (fun _ _ _ h => h) (.inl ⟨by kernel_rfl, fun _ _ => by kernel_rfl⟩) hS ?_
        simp only [List.setIfInBounds_toArray, List.set_cons_zero, List.set_cons_succ]
        refine rg_take 9 73 (.binOp .neq 26 (.tmp 72) (.const (.int .i64 0)) 26) (.bool false) #[true, true, true, true, true, true, true, true, true, true, false, false, false, false, false] (by kernel_rfl) (by rfl) (by kernel_rfl) (by kernel_rfl) (by kernel_rfl) (fun _ _ _ h => h) (.inl ⟨by kernel_rfl, fun _ _ => by go_simp⟩) hS ?_
        simp only [List.setIfInBounds_toArray, List.set_cons_zero, List.set_cons_succ]
        refine rg_take 10 74 (.pick (.tmp 71) (.const (.bool true)) (.tmp 73)) (.bool false) #[true, true, true, true, true, true, true, true, true, true, true, false, false, false, false] (by kernel_rfl) (by rfl) (by kernel_rfl) (by kernel_rfl) (by kernel_rfl) (fun _ _ _ h => h) (.inl ⟨by kernel_rfl, fun _ _ => by go_simp⟩) hS ?_
        simp only [List.setIfInBounds_toArray, List.set_cons_zero, List.set_cons_succ]
        refine rg_take 11 75 (.move (.tmp 74)) (.bool false) #[true, true, true, true, true, true, true, true, true, true, true, true, false, false, false] (by kernel_rfl) (by rfl) (by kernel_rfl) (by kernel_rfl) (by kernel_rfl) (fun _ _ _ h => h) (.inl ⟨by kernel_rfl, fun _ _ => by kernel_rfl⟩) hS ?_
        simp only [List.setIfInBounds_toArray, List.set_cons_zero, List.set_cons_succ]
        refine rg_take 12 76 (.move (.tmp 11)) (.bool true) #[true, true, true, true, true, true, true, true, true, true, true, true, true, false, false] (by kernel_rfl) (by rfl) (by kernel_rfl) (by kernel_rfl) (by kernel_rfl) (fun _ _ _ h => h) (.inl ⟨by kernel_rfl, fun _ _ => by kernel_rfl⟩) hS ?_
        simp only [List.setIfInBounds_toArray, List.set_cons_zero, List.set_cons_succ]
        refine rg_take 13 77 (.unOp .not 4 (.tmp 76)) (.bool false) #[true, true, true, true, true, true, true, true, true, true, true, true, true, true, false] (by kernel_rfl) (by rfl) (by kernel_rfl) (by kernel_rfl) (by kernel_rfl) (fun _ _ _ h => h) (.inl ⟨by kernel_rfl, fun _ _ => by go_simp⟩) hS ?_
        simp only [List.setIfInBounds_toArray, List.set_cons_zero, List.set_cons_succ]
        refine rg_take 14 78 (.pick (.tmp 75) (.const (.bool true)) (.tmp 77)) (.bool false) #[true, true, true, true, true, true, true, true, true, true, true, true, true, true, true] (by kernel_rfl) (by rfl) (by kernel_rfl) (by kernel_rfl) (by kernel_rfl) (fun _ _ _ h => h) (.inl ⟨by kernel_rfl, fun _ _ => by go_simp⟩) hS ?_
        simp only [List.setIfInBounds_toArray, List.set_cons_zero, List.set_cons_succ]
        refine wpAnyH_done (by kernel_rfl) ?_ _
        replace hB := hS.1
        clear hS HQ HA0
        go_wp2_with fail

        refine (decode_calls A1 c1 _ bs _ _ rfl (R1.out.below hB.below) N1.out (by have := HL.out; omega)).mono ?_
        rintro r X1 ⟨x1, y1, z1, rfl, HA1, HB1⟩
        rw [HD.out] at HA1
        rw [HD.out]
        dsimp only at HA1
        dsimp only
        obtain ⟨Y, hY⟩ : ∃ Y, erOf p x1 y1 z1 = Y := ⟨_, rfl⟩
        rw [hY] at HA1
        rw [hY]
        have HY := Hold.mk hY
        clear hY
        replace hB := hB.step HB1.out
        go_upto_region 14 with (first
          | (with_reducible refine gateA 70 ?_; refine wpl_allocX zeroE hB rfl ?_; intro X2 g12 hB HA2; simp only [List.cons_append, List.nil_append] at hB)
          | (with_reducible refine gateS 70 ?_; refine wpl_storeX (C' := ER.cells Y) isE rfl rfl hB 2 rfl (ER.size _) (ER.size _) (ER.one _) rfl ?_; intro X3 hB HF3; simp only [List.set] at hB))
        have hb13 : Below X1.heap.size X1 X3 := ⟨HF3.out.os.trans HA2.out.1.os, HF3.out.tape.trans HA2.out.1.tape, HF3.out.output.trans HA2.out.1.output, Nat.le_trans HA2.out.1.size HF3.out.size, fun k hk => (HF3.out.block k (by have := HA2.out.2.2; omega) (by have := HA2.out.2.1; omega)).trans (HA2.out.1.block k hk)⟩
        have HA1 := Hold.mk (HA1.out.below hb13)
        clear hb13 HF3 HA2 HB1
        go_wp2_with fail
        refine (parse_calls A1 c1 _ bs _ _ rfl (R1.out.below hB.below) N1.out (by have := HL.out; omega)).mono ?_
        rintro r X4 ⟨x2, y2, z2, rfl, HA4, HB4⟩
        rw [HD.out] at HA4
        rw [HD.out]
        dsimp only at HA4
        dsimp only
        obtain ⟨Z, hZ⟩ : ∃ Y, erOf p x2 y2 z2 = Y := ⟨_, rfl⟩
        rw [hZ] at HA4
        rw [hZ]
        have HZ := Hold.mk hZ
        clear hZ
        have HA1 := Hold.mk (HA1.out.below HB4.out)
        replace hB := hB.step HB4.out
        go_upto_region 15 with (first
          | (with_reducible refine gateA 75 ?_; refine wpl_allocX zeroD hB rfl ?_; intro X5 g14 hB HA5; simp only [List.cons_append, List.nil_append] at hB)
          | (with_reducible refine gateS 75 ?_; refine wpl_storeX (C' := ER.cells Z) isD rfl rfl hB 3 rfl (ER.size _) (ER.size _) (ER.one _) rfl ?_; intro X6 hB HF6; simp only [List.set] at hB))
        have hb46 : Below X4.heap.size X4 X6 := ⟨HF6.out.os.trans HA5.out.1.os, HF6.out.tape.trans HA5.out.1.tape, HF6.out.output.trans HA5.out.1.output, Nat.le_trans HA5.out.1.size HF6.out.size, fun k hk => (HF6.out.block k (by have := HA5.out.2.2; omega) (by have := HA5.out.2.1; omega)).trans (HA5.out.1.block k hk)⟩
        have HA1 := Hold.mk (HA1.out.below hb46)
        have HA4 := Hold.mk (HA4.out.below hb46)
        clear hb46 HF6 HA5 HB4
        go_wp2_with (first
          | (with_reducible refine gateL 70 ?_; refine wpl_load isE rfl hB 2 rfl (ER.size _) rfl ?_)
          | (with_reducible refine gateL 75 ?_; refine wpl_load isD rfl hB 3 rfl (ER.size _) rfl ?_))
        refine (same_true Y Z p.f.2 p.a.2 p.v.2 _ HA1.out.f HA4.out.f HA1.out.a HA4.out.a HA1.out.v HA4.out.v (by rw [← HY.out, ← HZ.out]; rfl) (by rw [← HY.out, ← HZ.out]; rfl) (by rw [← HY.out, ← HZ.out]; rfl) (by rw [← HY.out, ← HZ.out]; rfl) (by rw [← HY.out, ← HZ.out]; rfl) (by rw [← HY.out, ← HZ.out]; rfl) (by rw [← HY.out, ← HZ.out]; rfl) (by rw [← HY.out, ← HZ.out]; rfl) (by rw [← HY.out, ← HZ.out]; rfl) (by rw [← HY.out, ← HZ.out]; rfl)).mono ?_
        rintro r X7 ⟨rfl, hb7⟩
        have HA1 := Hold.mk (HA1.out.below hb7)
        replace hB := hB.step hb7
        clear HA4 hb7
        go_wp2_with (with_reducible refine gateL 70 ?_; refine wpl_load isE rfl hB 2 rfl (ER.size _) rfl ?_)
        rcases HDT.out with hz | hz
        · subst hz
          have hd := HDB.out x1 y1 z1 rfl
          rw [HY.out] at hd
          have HDO := Hold.mk hd
          clear hd
          refine (encode_right Y p.f.2 p.a.2 p.v.2 _ HA1.out HDO.out.1).mono ?_
          rintro r X8 ⟨B8, c8, rfl, R8, H8⟩
          rw [HDO.out.2] at R8
          rw [HDO.out.2]
          replace hB := hB.step H8.out
          go_wp2_with fail
          refine (alive_calls _).mono ?_
          rintro r X9 ⟨rfl, hb9⟩
          replace hB := hB.step hb9
          have q1 := Rep.row_string (P := Try.prog) (c := c8) Try.underlying25 Try.underlying5 Try.underlying9 (R8.out.below hb9)
          have q2 := Rep.row_string (P := Try.prog) (c := c1) Try.underlying25 Try.underlying5 Try.underlying9 (R1.out.below hB.below)
          go_wp2
          go_ret
          exact ⟨by simp, by first | exact hB.below | (rw [← hg]; exact hB.below)⟩
        · obtain ⟨rfl, rfl⟩ : p = noEP ∧ hv = 2 := by cases hz; exact ⟨rfl, rfl⟩
          clear hz
          refine (encode_wrong Y [] [] [] _ HA1.out (by rw [← HY.out]; exact noE_bad _ _ _)).mono ?_
          rintro r X8 ⟨rfl, hb8⟩
          replace hB := hB.step hb8
          go_wp2_with (go_at_call 51; with_reducible refine (alive_calls _).mono ?_; rintro r w1 ⟨rfl, hb1⟩; replace hB := hB.step hb1)
          go_ret
          exact ⟨by simp, by first | exact hB.below | (rw [← hg]; exact hB.below)⟩

end Go.Proofs.Ytebhclgnpnlekaa.Ent
