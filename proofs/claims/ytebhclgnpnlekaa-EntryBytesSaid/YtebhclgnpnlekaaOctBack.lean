/- OctetBack, by its walk. -/
import Derived.Test.YtebhclgnpnlekaaBackLaw
import Derived.Test.YtebhclgnpnlekaaSame
import Derived.Test.YtebhclgnpnlekaaOctLaw
namespace Go.Proofs.Ytebhclgnpnlekaa.OctBack
open Go.RowKit Go.Proofs.Ytebhclgnpnlekaa.B Go.Proofs.Ytebhclgnpnlekaa.Cmd Go.Proofs.Ytebhclgnpnlekaa.Oct Go.Proofs.Ytebhclgnpnlekaa.Rd Go.Proofs.Ytebhclgnpnlekaa.OctLaw

abbrev valRep : Rep (Int × List CmdD × Unit) := Rep.prod (Rep.int .i64) (Rep.prod (Rep.slice cmdRep) Rep.unit)
theorem opens_val : Rep.Opens Try.prog valRep 34 := by
  refine Rep.opens_struct Try.underlying34 (by kernel_rfl) ?_
  exact Rep.opensF_cons rfl (Rep.opens_int Try.underlying3 (by kernel_rfl)) (Rep.opensF_cons rfl (Rep.opens_slice Try.underlying23 (by kernel_rfl) (by decide) opens_cmd) (Rep.opensF_nil _))
theorem its_below {g base : Nat} {w w' : World} (hf : Fr (Its g) w w') (hg : base ≤ g) (hs : base ≤ w.heap.size) : Below base w w' :=
  ⟨hf.os, hf.tape, hf.output, hf.size, fun k hk => hf.block k (Nat.lt_of_lt_of_le hk hs) (fun e => by have e : k = g := e; omega)⟩
theorem RAt.tight {T : TypeId} {g : Nat} {J : Nat → Prop} {w : World} {st : RSt} (h : RAt T g J w st) : RAt T g (fun k => J k ∧ k < w.heap.size) w st := by
  obtain ⟨A, c, e1, e2, e3, e4⟩ := h
  exact ⟨A, c, e1, e2, e3, e4.move fun k hk hlt => ⟨⟨hk.1, hk.2, hlt⟩, rfl⟩⟩
theorem cell_lt {w : World} {p : Addr} {v : Value} (h : w.cell? p = some v) : p.block < w.heap.size := by
  by_cases hb : p.block < w.heap.size
  · exact hb
  · have e : w.heap[p.block]? = none := Array.getElem?_eq_none (by omega)
    simp [World.cell?, e] at h
theorem num_step (g : Nat) (J : Nat → Prop) (w : World) (st : RSt) (x : Int) (st' : RSt) (H : RAt 131 g J w st) (hN : numS st = (x, st')) {p : Addr} {v : Value} (hp : p.block < w.heap.size) (hne : p.block ≠ g) (hc : w.cell? p = some v) :
    Calls Try.prog 21 #[.pointer (some ⟨g, 0, none⟩)] w fun e w' => e = .returned (.int .i64 x) ∧ Hold (RAt 131 g J w' st') ∧ Hold (Fr (Its g) w w') ∧ w'.cell? p = some v :=
  (num_calls g J w st H).mono (by
    rintro e w' ⟨he, hr, hf⟩
    rw [hN] at he hr
    exact ⟨he, ⟨hr⟩, ⟨hf⟩, (hf.cell hp hne).trans hc⟩)
theorem strOfNums_app (a b : List Int) : strOfNums (a ++ b) = strOfNums a ++ strOfNums b := by
  apply ByteArray.ext
  simp [strOfNums, ByteArray.data_append]
/-- What the two rows show, as strings. -/
theorem both2 {A B : Option Addr} {xs ys : List Int} {I J : Nat → Prop} {X w : World} (h1 : Rep.Row (Rep.int .u8) I X A xs) (h2 : Rep.Row (Rep.int .u8) J X B ys) (hb : Below X.heap.size X w) (c d : Nat) :
    (Go.convert 25 9 (.slice A xs.length c)).run Try.prog w = .ok (.string (strOfNums xs)) w ∧ (Go.convert 25 9 (.slice B ys.length d)).run Try.prog w = .ok (.string (strOfNums ys)) w :=
  ⟨Rep.row_string (P := Try.prog) (A := A) (c := c) Try.underlying25 Try.underlying5 Try.underlying9 (h1.below hb), Rep.row_string (P := Try.prog) (A := B) (c := d) Try.underlying25 Try.underlying5 Try.underlying9 (h2.below hb)⟩
theorem numsOk_get {l : List Int} (h : numsOk l = true) (i : Nat) (hi : i < l.length) : numOk l[i] = true := by
  rw [numsOk, List.all_eq_true] at h
  exact h _ (List.getElem_mem hi)
theorem encs_drop (l : List Int) (i : Nat) (hi : i < l.length) (rest : List Int) : encs (l.drop i) ++ rest = enc (l[i].toNat) ++ (encs (l.drop (i + 1)) ++ rest) := by
  rw [List.drop_eq_getElem_cons hi]
  simp only [encs, List.flatMap_cons, List.append_assoc]
theorem valueBytes_len {t : Int} {p : List CmdD} (h : valueOk t p = true) : (valueBytes t p).length ≤ 6 * (7 * p.length + 2) := by
  rw [valueOk, Bool.and_eq_true] at h
  have h1 := enc_le h.2
  have h2 := okSet_cmds h.1
  rw [cmdsOk, Bool.and_eq_true] at h2
  have h3 := encs_le (cmdsNums_ok h2.1 (of_decide_eq_true h2.2))
  unfold valueBytes cmdsBytes
  rw [List.length_append]
  have h4 : (cmdsNums p).length = 7 * p.length + 1 := by unfold cmdsNums; rw [List.length_cons, cmdNums_len]
  omega

set_option maxRecDepth 100000 in
set_option maxHeartbeats 8000000 in
theorem back_law (A0 : Option Addr) (c0 : Nat) (ns : List Int) (cs1 : Array Value) (a1 : Int × List CmdD × Unit) (A2 : Option Addr) (c2 : Nat) (bs : List Int) (w : World)
    (_h0 : ns.length ≤ c0) (_n0 : A0 = none → c0 = 0) (r0 : Rep.Row (Rep.int .i64) (fun _ => True) w A0 ns) (hk1 : valRep.K (fun _ => True) w a1 cs1.toList) (_h2 : bs.length ≤ c2) (n2 : A2 = none → c2 = 0) (r2 : Rep.Row (Rep.int .u8) (fun _ => True) w A2 bs) :
    Calls Try.prog 5 #[.slice A0 ns.length c0, .agg cs1, .slice A2 bs.length c2] w fun e w' => e = .returned (.bool true) ∧ Below w.heap.size w w' := by
  obtain ⟨t, p, _⟩ := a1
  obtain ⟨x1, x2, e, ⟨rfl, hwt⟩, x3, x4, rfl, ⟨A1, c1, rfl, _, hn1, r1⟩, rfl⟩ := hk1
  obtain rfl : cs1 = #[.int .i64 t, .slice A1 p.length c1] := by
    cases cs1; simpa using e
  have R0 := Hold.mk r0
  have R1 := Hold.mk r1
  have R2 := Hold.mk r2
  have N2 := Hold.mk n2
  have HWt := Hold.mk hwt
  have m0 := r0.len_le
  have m1 := r1.len_le
  have m2 := r2.len_le
  clear r0 r1 r2 n2 hwt e hn1
  by_cases hn : ns.length ≤ 150 ∧ p.length ≤ 150 ∧ bs.length ≤ 3000
  · obtain ⟨hn1, hn2, hn3⟩ := hn
    have t0 : decide ((150 : Int) < (ns.length : Int)) = false := decide_eq_false (by omega)
    have t1 : decide ((150 : Int) < (p.length : Int)) = false := decide_eq_false (by omega)
    have t2 : decide ((3000 : Int) < (bs.length : Int)) = false := decide_eq_false (by omega)
    have HL0 : Hold (ns.length ≤ 150) := ⟨hn1⟩
    have HL1 : Hold (p.length ≤ 150) := ⟨hn2⟩
    have HL2 : Hold (bs.length ≤ 3000) := ⟨hn3⟩
    obtain ⟨base, hbase⟩ : ∃ b, w.heap.size = b := ⟨_, rfl⟩
    have HBase := Hold.mk hbase
    obtain ⟨W0, hW0⟩ : ∃ W, w.alloc (.cells #[.int .i64 t, .slice A1 p.length c1] 34) = W := ⟨_, rfl⟩
    have hb0 : Below w.heap.size w W0 := by rw [← hW0]; exact (Below.refl _ _).alloc (Nat.le_refl _) _
    have hz0 : W0.heap[base]? = some (.cells #[.int .i64 t, .slice A1 p.length c1] 34 (0, 0)) := by rw [← hW0, ← hbase]; exact Array.getElem?_push_size ..
    have z0 : W0.cell? ⟨base, 0, none⟩ = some (.int .i64 t) := by simp [World.cell?, hz0]
    have z1 : W0.cell? ⟨base, 1, none⟩ = some (.slice A1 p.length c1) := by simp [World.cell?, hz0]
    have HB0 : Hold (Below base w W0) := ⟨by rw [← hbase]; exact hb0⟩
    have HZ0 := Hold.mk hz0
    have HS0 : Hold (base < W0.heap.size) := ⟨(Array.getElem?_eq_some_iff.1 hz0).1⟩
    have B00 : Hold (Below w.heap.size w W0) := ⟨hb0⟩
    clear hn1 hn2 hn3 hb0 hz0
    go_enter Try.func5, Try.ntmps5
    -- BEGIN
    cases hon : numsOk ns
    · have HOn := Hold.mk hon
      have b1 : ((1 : Int) == 0) = false := rfl
      clear hon
      go_wp2_with fail
      refine (put_calls A0 c0 _ ns _ W0 rfl (R0.out.below B00.out) (by have := HL0.out; omega)).mono ?_
      rintro e w1 hs
      rw [PutSaid, HOn.out, if_neg (by decide)] at hs
      obtain ⟨rfl, Q1⟩ := hs
      have V : Hold (Below W0.heap.size W0 w1) := Q1
      clear z0 z1
      have z0 : w1.cell? ⟨base, 0, none⟩ = some (.int .i64 t) := by simp [World.cell?, (V.out.block base HS0.out).trans HZ0.out]
      have z1 : w1.cell? ⟨base, 1, none⟩ = some (.slice A1 p.length c1) := by simp [World.cell?, (V.out.block base HS0.out).trans HZ0.out]
      go_wp2_with fail
      refine (putValue_calls A1 c1 _ t p _ w1 rfl ((R1.out.below B00.out).below V.out) HWt.out).mono ?_
      rintro e w2 hs
      obtain ⟨B2, d2, rfl, O2, Q2⟩ := said_form hs
      clear hs
      clear z0 z1
      have V : Hold (Below W0.heap.size W0 w2) := ⟨V.out.trans (Q2.out.mono V.out.size)⟩
      go_wp2_with fail
      refine (read_calls A2 c2 _ bs _ w2 rfl ((R2.out.below B00.out).below V.out) N2.out (by have := HL2.out; omega)).mono ?_
      rintro e x1 ⟨h, rfl, HGh, HRh, HBh⟩
      have HGs2 : Hold (W0.heap.size ≤ h) := ⟨Nat.le_trans V.out.size HGh.out⟩
      have V : Hold (Below W0.heap.size W0 x1) := ⟨V.out.trans (HBh.out.mono V.out.size)⟩
      have HRh := Hold.mk (RAt.tight HRh.out)
      obtain ⟨J2, hJ2⟩ : ∃ J : Nat → Prop, (fun k => w2.heap.size ≤ k ∧ k < x1.heap.size) = J := ⟨_, rfl⟩
      rw [hJ2] at HRh
      have HJ2 : Hold (∀ k, J2 k → k < x1.heap.size) := ⟨fun k hk => by rw [← hJ2] at hk; exact hk.2⟩
      clear hJ2
      obtain ⟨t', p', r', e', hv⟩ : ∃ t p r e, valueS (bs, 0) = ((t, p), (r, e)) := ⟨_, _, _, _, rfl⟩
      have HVs := Hold.mk hv
      have HBy : Hold (Bytes bs) := ⟨fun x hx => bounds_u8 (Rep.row_wf R2.out x hx)⟩
      clear hv
      go_wp2_with fail
      refine (value_calls h J2 x1 _ HRh.out HJ2.out).mono ?_
      rintro e x2 ⟨A6, c6, rfl, HO6, HR6, HF6, HW6⟩
      rw [HVs.out] at HO6 HR6 HW6 ⊢
      have HW6 := Hold.mk HW6
      have V6 : Hold (Below W0.heap.size W0 x2) := ⟨V.out.trans (its_below HF6.out HGs2.out V.out.size)⟩
      obtain ⟨v, hv⟩ : ∃ v, x2.heap.size = v := ⟨_, rfl⟩
      obtain ⟨X2, hX2⟩ : ∃ W, x2.alloc (.cells #[.int .i64 t', .slice A6 p'.length c6] 34) = W := ⟨_, rfl⟩
      have hb6 : Below x2.heap.size x2 X2 := by rw [← hX2]; exact (Below.refl _ _).alloc (Nat.le_refl _) _
      have hv6 : X2.heap[v]? = some (.cells #[.int .i64 t', .slice A6 p'.length c6] 34 (0, 0)) := by rw [← hX2, ← hv]; exact Array.getElem?_push_size ..
      have y0 : X2.cell? ⟨v, 0, none⟩ = some (.int .i64 t') := by simp [World.cell?, hv6]
      have y1 : X2.cell? ⟨v, 1, none⟩ = some (.slice A6 p'.length c6) := by simp [World.cell?, hv6]
      have V : Hold (Below W0.heap.size W0 X2) := ⟨V6.out.trans (hb6.mono V6.out.size)⟩
      have HO6 := Hold.mk (HO6.out.below hb6)
      have HR6 := Hold.mk (HR6.out.below hb6)
      have HV6 := Hold.mk hv6
      have HVl := Hold.mk (Array.getElem?_eq_some_iff.1 hv6).1
      clear hb6 hv6
      by_cases he : e' = 0
      · subst he
        go_wp2_with fail
        refine (err_calls h J2 X2 _ HR6.out).mono ?_
        rintro e x3 ⟨rfl, rfl⟩
        have hcan := valueS_canon HBy.out HVs.out
        have HOv2 := Hold.mk hcan.1
        have HCan := Hold.mk hcan.2
        clear hcan
        go_wp2_with fail
        refine (putValue_calls A6 c6 _ t' p' _ X2 rfl HO6.out.row HW6.out).mono ?_
        rintro e x4 hs
        rw [BytesSaid, HOv2.out, if_pos rfl] at hs
        obtain ⟨B7, d7, rfl, O7, Q7⟩ := hs
        have V : Hold (Below W0.heap.size W0 x4) := ⟨V.out.trans (Q7.out.mono V.out.size)⟩
        have HR7 := Hold.mk (HR6.out.below Q7.out)
        clear y0 y1 hX2 hv
        obtain ⟨VB, hVB⟩ : ∃ VB, valueBytes t' p' = VB := ⟨_, rfl⟩
        rw [hVB] at O7 HCan ⊢
        have R4 := Hold.mk ((R2.out.below B00.out).below V.out)
        have q6 := both2 O7.out.row R4.out (below_drewN x4 1) d7 c2
        have HSum : Hold (strOfNums VB ++ strOfNums r' = strOfNums bs) := ⟨by rw [HCan.out, strOfNums_app]⟩
        have HAl := Hold.mk (alive_calls x4.drew)
        have HrL : Hold (r'.length ≤ 3000) := ⟨by have := HL2.out; rw [HCan.out, List.length_append] at this; omega⟩
        clear hVB
        have k1 : ((strOfNums VB ++ strOfNums r').toList == (strOfNums bs).toList) = true := by rw [HSum.out]; simp
        have k2 : ¬ 9223372036854775807 < (strOfNums VB).size + (strOfNums r').size := by rw [strOfNums_size, strOfNums_size]; have h1 := HCan.out; have h2 := HL2.out; rw [h1, List.length_append] at h2; omega
        have k3 : ¬ 9223372036854775807 < VB.length + r'.length := by have h1 := HCan.out; have h2 := HL2.out; rw [h1, List.length_append] at h2; omega
        go_wp2_with fail
        go_region_held_law (fun w' => (Go.convert 25 9 (.slice B7 VB.length d7)).run Try.prog w' = .ok (.string (strOfNums VB)) w' ∧ (Go.convert 25 9 (.slice A2 bs.length c2)).run Try.prog w' = .ok (.string (strOfNums bs)) w') (first | exact q6 | exact q7 | exact q8) (first
          | (go_at_call 13; (refine HAl.out.mono ?_); rintro e x5 ⟨rfl, HBa⟩; have q7 := both2 O7.out.row R4.out ((below_drewN x4 1).trans HBa.out) d7 c2)
          | (go_at_call 31; (refine (rest_calls h J2 x5 (r', 0) (HR7.out.below ((below_drewN x4 1).trans HBa.out)) (by have := HrL.out; show r'.length ≤ _; omega)).mono ?_); rintro e x6 ⟨A8, c8, rfl, HO8, HBr⟩; have qb := Rep.row_string (P := Try.prog) (A := A8) (c := c8) Try.underlying25 Try.underlying5 Try.underlying9 HO8.out.row; have q8 := both2 O7.out.row R4.out (((below_drewN x4 1).trans HBa.out).trans (HBr.out.mono HBa.out.size)) d7 c2))
        go_wp2
        have hb5 : Below x4.heap.size x4 x5 := (below_drewN x4 1).trans HBa.out
        have hb6 : Below x4.heap.size x4 x6 := hb5.trans (HBr.out.mono hb5.size)
        have HFin := Hold.mk (B00.out.trans ((V.out.trans (hb6.mono V.out.size)).mono B00.out.size))
        clear hb5 hb6
        go_ret
        exact ⟨rfl, HFin.out⟩
      · have t3 : (e' != 0) = true := by simp [he]
        have hc := valueS_clean (st := (bs, 0)) (fun h => absurd rfl h)
        rw [HVs.out] at hc
        obtain ⟨hc1, hc2⟩ := hc
        obtain rfl : r' = [] := hc1 he
        have hc3 := hc2 he
        injection hc3 with hc3 hc4
        subst hc3 hc4
        clear hc1 hc2 he
        simp only [List.length_nil] at hX2 y1
        have HR6 : Hold (RAt 131 h J2 X2 ([], e')) := ⟨HR6.out⟩
        go_wp2_with fail
        refine (err_calls h J2 X2 _ HR6.out).mono ?_
        rintro e x3 ⟨rfl, rfl⟩
        go_wp2_with (first
          | (go_at_call 13; (refine (alive_calls X2).mono ?_); rintro e x5 ⟨rfl, HBa⟩)
          | (go_at_call 31; (refine (rest_calls h J2 x5 _ (HR6.out.below HBa.out) (by simp)).mono ?_); rintro e x6 ⟨A8, c8, rfl, HO8, HBr⟩; have hy := ((HBa.out.trans (HBr.out.mono HBa.out.size)).block v HVl.out).trans HV6.out; have y2 : x6.cell? ⟨v, 0, none⟩ = some (.int .i64 0) := (by simp [World.cell?, hy]); have y3 : x6.cell? ⟨v, 1, none⟩ = some (.slice A6 0 c6) := (by simp [World.cell?, hy])))
        have hb6 : Below X2.heap.size X2 x6 := HBa.out.trans (HBr.out.mono HBa.out.size)
        have HFin := Hold.mk (B00.out.trans ((V.out.trans (hb6.mono V.out.size)).mono B00.out.size))
        clear hb6
        go_ret
        exact ⟨rfl, HFin.out⟩
    · have HOn := Hold.mk hon
      cases hov : valueOk t p
      · have HOv := Hold.mk hov
        clear hon hov
        go_wp2_with fail
        refine (put_calls A0 c0 _ ns _ W0 rfl (R0.out.below B00.out) (by have := HL0.out; omega)).mono ?_
        rintro e w1 hs
        rw [PutSaid, HOn.out, if_pos rfl] at hs
        obtain ⟨B1, d1, rfl, O1, Q1⟩ := hs
        have V : Hold (Below W0.heap.size W0 w1) := Q1
        clear z0 z1
        have z0 : w1.cell? ⟨base, 0, none⟩ = some (.int .i64 t) := by simp [World.cell?, (V.out.block base HS0.out).trans HZ0.out]
        have z1 : w1.cell? ⟨base, 1, none⟩ = some (.slice A1 p.length c1) := by simp [World.cell?, (V.out.block base HS0.out).trans HZ0.out]
        go_wp2_with fail
        refine (putValue_calls A1 c1 _ t p _ w1 rfl ((R1.out.below B00.out).below V.out) HWt.out).mono ?_
        rintro e w2 hs
        rw [BytesSaid, HOv.out, if_neg (by decide)] at hs
        obtain ⟨rfl, Q2⟩ := hs
        clear z0 z1
        have V : Hold (Below W0.heap.size W0 w2) := ⟨V.out.trans (Q2.out.mono V.out.size)⟩
        go_wp2_with fail
        refine (read_calls A2 c2 _ bs _ w2 rfl ((R2.out.below B00.out).below V.out) N2.out (by have := HL2.out; omega)).mono ?_
        rintro e x1 ⟨h, rfl, HGh, HRh, HBh⟩
        have HGs2 : Hold (W0.heap.size ≤ h) := ⟨Nat.le_trans V.out.size HGh.out⟩
        have V : Hold (Below W0.heap.size W0 x1) := ⟨V.out.trans (HBh.out.mono V.out.size)⟩
        have HRh := Hold.mk (RAt.tight HRh.out)
        obtain ⟨J2, hJ2⟩ : ∃ J : Nat → Prop, (fun k => w2.heap.size ≤ k ∧ k < x1.heap.size) = J := ⟨_, rfl⟩
        rw [hJ2] at HRh
        have HJ2 : Hold (∀ k, J2 k → k < x1.heap.size) := ⟨fun k hk => by rw [← hJ2] at hk; exact hk.2⟩
        clear hJ2
        obtain ⟨t', p', r', e', hv⟩ : ∃ t p r e, valueS (bs, 0) = ((t, p), (r, e)) := ⟨_, _, _, _, rfl⟩
        have HVs := Hold.mk hv
        have HBy : Hold (Bytes bs) := ⟨fun x hx => bounds_u8 (Rep.row_wf R2.out x hx)⟩
        clear hv
        go_wp2_with fail
        refine (value_calls h J2 x1 _ HRh.out HJ2.out).mono ?_
        rintro e x2 ⟨A6, c6, rfl, HO6, HR6, HF6, HW6⟩
        rw [HVs.out] at HO6 HR6 HW6 ⊢
        have HW6 := Hold.mk HW6
        have V6 : Hold (Below W0.heap.size W0 x2) := ⟨V.out.trans (its_below HF6.out HGs2.out V.out.size)⟩
        obtain ⟨v, hv⟩ : ∃ v, x2.heap.size = v := ⟨_, rfl⟩
        obtain ⟨X2, hX2⟩ : ∃ W, x2.alloc (.cells #[.int .i64 t', .slice A6 p'.length c6] 34) = W := ⟨_, rfl⟩
        have hb6 : Below x2.heap.size x2 X2 := by rw [← hX2]; exact (Below.refl _ _).alloc (Nat.le_refl _) _
        have hv6 : X2.heap[v]? = some (.cells #[.int .i64 t', .slice A6 p'.length c6] 34 (0, 0)) := by rw [← hX2, ← hv]; exact Array.getElem?_push_size ..
        have y0 : X2.cell? ⟨v, 0, none⟩ = some (.int .i64 t') := by simp [World.cell?, hv6]
        have y1 : X2.cell? ⟨v, 1, none⟩ = some (.slice A6 p'.length c6) := by simp [World.cell?, hv6]
        have V : Hold (Below W0.heap.size W0 X2) := ⟨V6.out.trans (hb6.mono V6.out.size)⟩
        have HO6 := Hold.mk (HO6.out.below hb6)
        have HR6 := Hold.mk (HR6.out.below hb6)
        have HV6 := Hold.mk hv6
        have HVl := Hold.mk (Array.getElem?_eq_some_iff.1 hv6).1
        clear hb6 hv6
        by_cases he : e' = 0
        · subst he
          go_wp2_with fail
          refine (err_calls h J2 X2 _ HR6.out).mono ?_
          rintro e x3 ⟨rfl, rfl⟩
          have hcan := valueS_canon HBy.out HVs.out
          have HOv2 := Hold.mk hcan.1
          have HCan := Hold.mk hcan.2
          clear hcan
          go_wp2_with fail
          refine (putValue_calls A6 c6 _ t' p' _ X2 rfl HO6.out.row HW6.out).mono ?_
          rintro e x4 hs
          rw [BytesSaid, HOv2.out, if_pos rfl] at hs
          obtain ⟨B7, d7, rfl, O7, Q7⟩ := hs
          have V : Hold (Below W0.heap.size W0 x4) := ⟨V.out.trans (Q7.out.mono V.out.size)⟩
          have HR7 := Hold.mk (HR6.out.below Q7.out)
          clear y0 y1 hX2 hv
          obtain ⟨VB, hVB⟩ : ∃ VB, valueBytes t' p' = VB := ⟨_, rfl⟩
          rw [hVB] at O7 HCan ⊢
          have R4 := Hold.mk ((R2.out.below B00.out).below V.out)
          have q6 := both2 O7.out.row R4.out (below_drewN x4 1) d7 c2
          have HSum : Hold (strOfNums VB ++ strOfNums r' = strOfNums bs) := ⟨by rw [HCan.out, strOfNums_app]⟩
          have HAl := Hold.mk (alive_calls x4.drew)
          have HrL : Hold (r'.length ≤ 3000) := ⟨by have := HL2.out; rw [HCan.out, List.length_append] at this; omega⟩
          clear hVB
          have k1 : ((strOfNums VB ++ strOfNums r').toList == (strOfNums bs).toList) = true := by rw [HSum.out]; simp
          have k2 : ¬ 9223372036854775807 < (strOfNums VB).size + (strOfNums r').size := by rw [strOfNums_size, strOfNums_size]; have h1 := HCan.out; have h2 := HL2.out; rw [h1, List.length_append] at h2; omega
          have k3 : ¬ 9223372036854775807 < VB.length + r'.length := by have h1 := HCan.out; have h2 := HL2.out; rw [h1, List.length_append] at h2; omega
          go_wp2_with fail
          go_region_held_law (fun w' => (Go.convert 25 9 (.slice B7 VB.length d7)).run Try.prog w' = .ok (.string (strOfNums VB)) w' ∧ (Go.convert 25 9 (.slice A2 bs.length c2)).run Try.prog w' = .ok (.string (strOfNums bs)) w') (first | exact q6 | exact q7 | exact q8) (first
            | (go_at_call 13; (refine HAl.out.mono ?_); rintro e x5 ⟨rfl, HBa⟩; have q7 := both2 O7.out.row R4.out ((below_drewN x4 1).trans HBa.out) d7 c2)
            | (go_at_call 31; (refine (rest_calls h J2 x5 (r', 0) (HR7.out.below ((below_drewN x4 1).trans HBa.out)) (by have := HrL.out; show r'.length ≤ _; omega)).mono ?_); rintro e x6 ⟨A8, c8, rfl, HO8, HBr⟩; have qb := Rep.row_string (P := Try.prog) (A := A8) (c := c8) Try.underlying25 Try.underlying5 Try.underlying9 HO8.out.row; have q8 := both2 O7.out.row R4.out (((below_drewN x4 1).trans HBa.out).trans (HBr.out.mono HBa.out.size)) d7 c2))
          go_wp2
          have hb5 : Below x4.heap.size x4 x5 := (below_drewN x4 1).trans HBa.out
          have hb6 : Below x4.heap.size x4 x6 := hb5.trans (HBr.out.mono hb5.size)
          have HFin := Hold.mk (B00.out.trans ((V.out.trans (hb6.mono V.out.size)).mono B00.out.size))
          clear hb5 hb6
          go_ret
          exact ⟨rfl, HFin.out⟩
        · have t3 : (e' != 0) = true := by simp [he]
          have hc := valueS_clean (st := (bs, 0)) (fun h => absurd rfl h)
          rw [HVs.out] at hc
          obtain ⟨hc1, hc2⟩ := hc
          obtain rfl : r' = [] := hc1 he
          have hc3 := hc2 he
          injection hc3 with hc3 hc4
          subst hc3 hc4
          clear hc1 hc2 he
          simp only [List.length_nil] at hX2 y1
          have HR6 : Hold (RAt 131 h J2 X2 ([], e')) := ⟨HR6.out⟩
          go_wp2_with fail
          refine (err_calls h J2 X2 _ HR6.out).mono ?_
          rintro e x3 ⟨rfl, rfl⟩
          go_wp2_with (first
            | (go_at_call 13; (refine (alive_calls X2).mono ?_); rintro e x5 ⟨rfl, HBa⟩)
            | (go_at_call 31; (refine (rest_calls h J2 x5 _ (HR6.out.below HBa.out) (by simp)).mono ?_); rintro e x6 ⟨A8, c8, rfl, HO8, HBr⟩; have hy := ((HBa.out.trans (HBr.out.mono HBa.out.size)).block v HVl.out).trans HV6.out; have y2 : x6.cell? ⟨v, 0, none⟩ = some (.int .i64 0) := (by simp [World.cell?, hy]); have y3 : x6.cell? ⟨v, 1, none⟩ = some (.slice A6 0 c6) := (by simp [World.cell?, hy])))
          have hb6 : Below X2.heap.size X2 x6 := HBa.out.trans (HBr.out.mono HBa.out.size)
          have HFin := Hold.mk (B00.out.trans ((V.out.trans (hb6.mono V.out.size)).mono B00.out.size))
          clear hb6
          go_ret
          exact ⟨rfl, HFin.out⟩
      · have HOv := Hold.mk hov
        clear hon hov
        go_wp2_with fail
        refine (put_calls A0 c0 _ ns _ W0 rfl (R0.out.below B00.out) (by have := HL0.out; omega)).mono ?_
        rintro e w1 hs
        rw [PutSaid, HOn.out, if_pos rfl] at hs
        obtain ⟨B1, d1, rfl, O1, Q1⟩ := hs
        have V : Hold (Below W0.heap.size W0 w1) := Q1
        clear z0 z1
        have z0 : w1.cell? ⟨base, 0, none⟩ = some (.int .i64 t) := by simp [World.cell?, (V.out.block base HS0.out).trans HZ0.out]
        have z1 : w1.cell? ⟨base, 1, none⟩ = some (.slice A1 p.length c1) := by simp [World.cell?, (V.out.block base HS0.out).trans HZ0.out]
        go_wp2_with fail
        refine (putValue_calls A1 c1 _ t p _ w1 rfl ((R1.out.below B00.out).below V.out) HWt.out).mono ?_
        rintro e w2 hs
        rw [BytesSaid, HOv.out, if_pos rfl] at hs
        obtain ⟨B2, d2, rfl, O2, Q2⟩ := hs
        clear z0 z1
        have V : Hold (Below W0.heap.size W0 w2) := ⟨V.out.trans (Q2.out.mono V.out.size)⟩
        go_wp2_with (at_builtin; refine Rep.wp_copy (Rep.int .u8) rfl (.tmp 51) (.tmp 52) 25 5 (.int .u8 0) 1 rfl Try.underlying25 info_u8 rfl (by decide) (by decide) _ (encs ns) B1 _ d1 rfl rfl rfl (O1.out.below Q2.out).row (O1.out.cap_nil _ _ _ rfl) ?c1 ?_)
        case c1 => have := encs_le HOn.out; have := HL0.out; omega
        intro A3 c3 w3 HO3 HC3 HB3
        have V : Hold (Below W0.heap.size W0 w3) := ⟨V.out.trans (HB3.out.mono V.out.size)⟩
        have HO3 := Hold.mk (HO3.out.flat nob (Rep.flat_int _))
        have HO2 := Hold.mk (O2.out.below HB3.out)
        obtain ⟨Q, hQ⟩ : ∃ Q, encs ns ++ valueBytes t p = Q := ⟨_, rfl⟩
        have HQ := Hold.mk hQ
        have HQl : Hold ((encs ns).length + (valueBytes t p).length ≤ 100000) := ⟨by have h1 := encs_le HOn.out; have h2 := valueBytes_len HOv.out; have := HL0.out; have := HL1.out; omega⟩
        have HQ2 : Hold (Q.length ≤ 100000) := ⟨by rw [← hQ, List.length_append]; exact HQl.out⟩
        clear hQ
        go_wp2_with (at_builtin; refine Rep.wp_more (Rep.int .u8) rfl (.tmp 54) (.tmp 55) 25 5 (.int .u8 0) 1 rfl Try.underlying25 info_u8 rfl (by decide) (by decide) w2.heap.size nob nob _ (encs ns) (valueBytes t p) Q B2 _ d2 rfl rfl rfl HQ.out HO3.out (HO2.out.flatV _ (Rep.flat_int _)) (fun _ h _ => h.elim) (O2.out.cap_nil _ _ _ rfl) ?e1 ?e2 ?_)
        case e1 => exact HB3.out.size
        case e2 => have := HQl.out; omega
        intro A4 c4 w4 HG4
        have V4 : Hold (Below w2.heap.size w3 w4) := ⟨HG4.out.below (fun k hk => (HO3.out.block_lt k hk).1) HB3.out.size⟩
        have Vn : Hold (Below W0.heap.size W0 w4) := ⟨V.out.trans (V4.out.mono (Nat.le_trans Q1.out.size Q2.out.size))⟩
        go_wp2_with fail
        refine (read_calls A4 c4 _ Q _ w4 rfl HG4.out.own.row HG4.out.nil (by have := HQ2.out; omega)).mono ?_
        rintro e w5 ⟨g, rfl, HG5, HR5, HB5⟩
        have V : Hold (Below W0.heap.size W0 w5) := ⟨Vn.out.trans (HB5.out.mono Vn.out.size)⟩
        have HR5 := Hold.mk (RAt.tight HR5.out)
        obtain ⟨J, hJ⟩ : ∃ J : Nat → Prop, (fun k => w4.heap.size ≤ k ∧ k < w5.heap.size) = J := ⟨_, rfl⟩
        rw [hJ] at HR5
        have HJ : Hold (∀ k, J k → k < w5.heap.size) := ⟨fun k hk => by rw [← hJ] at hk; exact hk.2⟩
        have HGs : Hold (W0.heap.size ≤ g) := ⟨Nat.le_trans Vn.out.size HG5.out⟩
        have HRs : Hold (RAt 131 g J w5 (encs (ns.drop 0) ++ valueBytes t p, 0)) := ⟨by rw [List.drop_zero, HQ.out]; exact HR5.out⟩
        clear hJ
        go_wp2
        go_loopw [13] (fun s wr => ∃ i : Nat, i ≤ ns.length ∧ s = .int .i64 (i : Int) ∧ Hold (RAt 131 g J wr (encs (ns.drop i) ++ valueBytes t p, 0)) ∧ Hold (Below W0.heap.size W0 wr) ∧ Hold (w5.heap.size ≤ wr.heap.size)) (fun s _ => ns.length - (intOf s).toNat)
        case atStart => exact ⟨0, by omega, rfl, HRs, V, ⟨Nat.le_refl _⟩⟩
        case round =>
          obtain ⟨i, hi, rfl, HR, V, HSz⟩ := hrel
          by_cases hlt : i < ns.length
          · have l1 : (i : Int) < (ns.length : Int) := by omega
            obtain ⟨ad, x, rfl, hx, hcell, hwx⟩ := Rep.Row.get (R0.out.below B00.out) i hlt
            have hxe : ns[i] = x := by rw [List.getElem?_eq_getElem hlt] at hx; injection hx
            have hpb : (ad.add i).block < W0.heap.size := cell_lt hcell
            have HC := Hold.mk hcell
            have HPb := Hold.mk hpb
            have HNum : Hold (numS (encs (ns.drop i) ++ valueBytes t p, 0) = (x, (encs (ns.drop (i + 1)) ++ valueBytes t p, 0))) := ⟨by
              rw [encs_drop ns i hlt, hxe]; exact numS_enc (by rw [← hxe]; exact numsOk_get HOn.out i hlt) _⟩
            have q6 : wr.drew.cell? (ad.add i) = some (.int .i64 x) := (V.out.cell hpb).trans hcell
            clear hx hwx hcell hxe hpb
            go_wp2_with fail
            have hpr : (ad.add i).block < wr.heap.size := Nat.lt_of_lt_of_le HPb.out V.out.size
            have hpg : (ad.add i).block ≠ g := fun e => by have := HPb.out; have := HGs.out; omega
            have HNs := Hold.mk (num_step g J wr.drew _ x _ (HR.out.below (below_drewN wr 1)) HNum.out hpr hpg q6)
            clear hpr hpg
            go_region_held_law (fun w' => w'.cell? (ad.add i) = some (.int .i64 x)) (first | exact q6 | exact q7) (first | (go_at_call 21; (refine HNs.out.mono ?_); rintro e w6 ⟨rfl, HR7, HF7, q7⟩))
            go_wp2
            have hs : W0.heap.size ≤ wr.heap.size := V.out.size
            have V7 : Hold (Below W0.heap.size W0 w6) := ⟨V.out.trans (((below_drewN wr 1).mono hs).trans (its_below HF7.out HGs.out hs))⟩
            have HSz7 : Hold (w5.heap.size ≤ w6.heap.size) := ⟨Nat.le_trans HSz.out HF7.out.size⟩
            clear hs
            exact ⟨⟨i + 1, by omega, by go_num, HR7, V7, HSz7⟩, by simp [intOf]; omega⟩
          · obtain rfl : i = ns.length := by omega
            have HRv : Hold (RAt 131 g J wr (valueBytes t p ++ [], 0)) := ⟨by have := HR.out; rw [List.drop_length] at this; rw [List.append_nil]; exact this⟩
            go_wp2_with fail
            refine (value_calls g J wr _ HRv.out (fun k hk => Nat.lt_of_lt_of_le (HJ.out k hk) HSz.out)).mono ?_
            rintro e w6 ⟨A5, c5, rfl, HO5, HR6, HF6, _⟩
            rw [valueS_bytes HOv.out []] at HO5 HR6 ⊢
            have V6 : Hold (Below W0.heap.size W0 w6) := ⟨V.out.trans (its_below HF6.out HGs.out V.out.size)⟩
            obtain ⟨v, hv⟩ : ∃ v, w6.heap.size = v := ⟨_, rfl⟩
            obtain ⟨W6, hW6⟩ : ∃ W, w6.alloc (.cells #[.int .i64 t, .slice A5 p.length c5] 34) = W := ⟨_, rfl⟩
            have hb6 : Below w6.heap.size w6 W6 := by rw [← hW6]; exact (Below.refl _ _).alloc (Nat.le_refl _) _
            have hv6 : W6.heap[v]? = some (.cells #[.int .i64 t, .slice A5 p.length c5] 34 (0, 0)) := by rw [← hW6, ← hv]; exact Array.getElem?_push_size ..
            have y0 : W6.cell? ⟨v, 0, none⟩ = some (.int .i64 t) := by simp [World.cell?, hv6]
            have y1 : W6.cell? ⟨v, 1, none⟩ = some (.slice A5 p.length c5) := by simp [World.cell?, hv6]
            have V : Hold (Below W0.heap.size W0 W6) := ⟨V6.out.trans (hb6.mono V6.out.size)⟩
            have HO6 := Hold.mk (HO5.out.below hb6)
            have HR6 := Hold.mk (HR6.out.below hb6)
            clear hb6 hv6
            have z0 : W6.cell? ⟨base, 0, none⟩ = some (.int .i64 t) := by simp [World.cell?, (V.out.block base HS0.out).trans HZ0.out]
            have z1 : W6.cell? ⟨base, 1, none⟩ = some (.slice A1 p.length c1) := by simp [World.cell?, (V.out.block base HS0.out).trans HZ0.out]
            go_wp2_with fail
            refine (sameValue_calls A5 A1 c5 c1 _ _ t t p p _ _ W6 rfl rfl HO6.out.row ((R1.out.below B00.out).below V.out) rfl rfl).mono ?_
            rintro e w7 ⟨rfl, hb7⟩
            have V : Hold (Below W0.heap.size W0 w7) := ⟨V.out.trans (hb7.mono V.out.size)⟩
            have HR7 := Hold.mk (HR6.out.below hb7)
            clear hb7 y0 y1 z0 z1 hW6 hv
            go_wp2_with (first
              | (go_at_call 32; (refine (err_calls g J w7 _ HR7.out).mono ?_); rintro e w8 ⟨rfl, rfl⟩)
              | (go_at_call 31; (refine (rest_calls g J w7 _ HR7.out (by simp)).mono ?_); rintro e w8 ⟨A8, c8, rfl, HO8, HB8⟩))
            have V : Hold (Below W0.heap.size W0 w8) := ⟨V.out.trans (HB8.out.mono V.out.size)⟩
            go_wp2_with fail
            refine (read_calls A2 c2 _ bs _ w8 rfl ((R2.out.below B00.out).below V.out) N2.out (by have := HL2.out; omega)).mono ?_
            rintro e x1 ⟨h, rfl, HGh, HRh, HBh⟩
            have HGs2 : Hold (W0.heap.size ≤ h) := ⟨Nat.le_trans V.out.size HGh.out⟩
            have V : Hold (Below W0.heap.size W0 x1) := ⟨V.out.trans (HBh.out.mono V.out.size)⟩
            have HRh := Hold.mk (RAt.tight HRh.out)
            obtain ⟨J2, hJ2⟩ : ∃ J : Nat → Prop, (fun k => w8.heap.size ≤ k ∧ k < x1.heap.size) = J := ⟨_, rfl⟩
            rw [hJ2] at HRh
            have HJ2 : Hold (∀ k, J2 k → k < x1.heap.size) := ⟨fun k hk => by rw [← hJ2] at hk; exact hk.2⟩
            clear hJ2
            obtain ⟨t', p', r', e', hv⟩ : ∃ t p r e, valueS (bs, 0) = ((t, p), (r, e)) := ⟨_, _, _, _, rfl⟩
            have HVs := Hold.mk hv
            have HBy : Hold (Bytes bs) := ⟨fun x hx => bounds_u8 (Rep.row_wf R2.out x hx)⟩
            clear hv
            go_wp2_with fail
            refine (value_calls h J2 x1 _ HRh.out HJ2.out).mono ?_
            rintro e x2 ⟨A6, c6, rfl, HO6, HR6, HF6, HW6⟩
            rw [HVs.out] at HO6 HR6 HW6 ⊢
            have HW6 := Hold.mk HW6
            have V6 : Hold (Below W0.heap.size W0 x2) := ⟨V.out.trans (its_below HF6.out HGs2.out V.out.size)⟩
            obtain ⟨v, hv⟩ : ∃ v, x2.heap.size = v := ⟨_, rfl⟩
            obtain ⟨X2, hX2⟩ : ∃ W, x2.alloc (.cells #[.int .i64 t', .slice A6 p'.length c6] 34) = W := ⟨_, rfl⟩
            have hb6 : Below x2.heap.size x2 X2 := by rw [← hX2]; exact (Below.refl _ _).alloc (Nat.le_refl _) _
            have hv6 : X2.heap[v]? = some (.cells #[.int .i64 t', .slice A6 p'.length c6] 34 (0, 0)) := by rw [← hX2, ← hv]; exact Array.getElem?_push_size ..
            have y0 : X2.cell? ⟨v, 0, none⟩ = some (.int .i64 t') := by simp [World.cell?, hv6]
            have y1 : X2.cell? ⟨v, 1, none⟩ = some (.slice A6 p'.length c6) := by simp [World.cell?, hv6]
            have V : Hold (Below W0.heap.size W0 X2) := ⟨V6.out.trans (hb6.mono V6.out.size)⟩
            have HO6 := Hold.mk (HO6.out.below hb6)
            have HR6 := Hold.mk (HR6.out.below hb6)
            have HV6 := Hold.mk hv6
            have HVl := Hold.mk (Array.getElem?_eq_some_iff.1 hv6).1
            clear hb6 hv6
            by_cases he : e' = 0
            · subst he
              go_wp2_with fail
              refine (err_calls h J2 X2 _ HR6.out).mono ?_
              rintro e x3 ⟨rfl, rfl⟩
              have hcan := valueS_canon HBy.out HVs.out
              have HOv2 := Hold.mk hcan.1
              have HCan := Hold.mk hcan.2
              clear hcan
              go_wp2_with fail
              refine (putValue_calls A6 c6 _ t' p' _ X2 rfl HO6.out.row HW6.out).mono ?_
              rintro e x4 hs
              rw [BytesSaid, HOv2.out, if_pos rfl] at hs
              obtain ⟨B7, d7, rfl, O7, Q7⟩ := hs
              have V : Hold (Below W0.heap.size W0 x4) := ⟨V.out.trans (Q7.out.mono V.out.size)⟩
              have HR7 := Hold.mk (HR6.out.below Q7.out)
              clear y0 y1 hX2 hv
              obtain ⟨VB, hVB⟩ : ∃ VB, valueBytes t' p' = VB := ⟨_, rfl⟩
              rw [hVB] at O7 HCan ⊢
              have R4 := Hold.mk ((R2.out.below B00.out).below V.out)
              have q6 := both2 O7.out.row R4.out (below_drewN x4 1) d7 c2
              have HSum : Hold (strOfNums VB ++ strOfNums r' = strOfNums bs) := ⟨by rw [HCan.out, strOfNums_app]⟩
              have HAl := Hold.mk (alive_calls x4.drew)
              have HrL : Hold (r'.length ≤ 3000) := ⟨by have := HL2.out; rw [HCan.out, List.length_append] at this; omega⟩
              clear hVB
              have k1 : ((strOfNums VB ++ strOfNums r').toList == (strOfNums bs).toList) = true := by rw [HSum.out]; simp
              have k2 : ¬ 9223372036854775807 < (strOfNums VB).size + (strOfNums r').size := by rw [strOfNums_size, strOfNums_size]; have h1 := HCan.out; have h2 := HL2.out; rw [h1, List.length_append] at h2; omega
              have k3 : ¬ 9223372036854775807 < VB.length + r'.length := by have h1 := HCan.out; have h2 := HL2.out; rw [h1, List.length_append] at h2; omega
              go_wp2_with fail
              go_region_held_law (fun w' => (Go.convert 25 9 (.slice B7 VB.length d7)).run Try.prog w' = .ok (.string (strOfNums VB)) w' ∧ (Go.convert 25 9 (.slice A2 bs.length c2)).run Try.prog w' = .ok (.string (strOfNums bs)) w') (first | exact q6 | exact q7 | exact q8) (first
                | (go_at_call 13; (refine HAl.out.mono ?_); rintro e x5 ⟨rfl, HBa⟩; have q7 := both2 O7.out.row R4.out ((below_drewN x4 1).trans HBa.out) d7 c2)
                | (go_at_call 31; (refine (rest_calls h J2 x5 (r', 0) (HR7.out.below ((below_drewN x4 1).trans HBa.out)) (by have := HrL.out; show r'.length ≤ _; omega)).mono ?_); rintro e x6 ⟨A8, c8, rfl, HO8, HBr⟩; have qb := Rep.row_string (P := Try.prog) (A := A8) (c := c8) Try.underlying25 Try.underlying5 Try.underlying9 HO8.out.row; have q8 := both2 O7.out.row R4.out (((below_drewN x4 1).trans HBa.out).trans (HBr.out.mono HBa.out.size)) d7 c2))
              go_wp2
              have hb5 : Below x4.heap.size x4 x5 := (below_drewN x4 1).trans HBa.out
              have hb6 : Below x4.heap.size x4 x6 := hb5.trans (HBr.out.mono hb5.size)
              have HFin := Hold.mk (B00.out.trans ((V.out.trans (hb6.mono V.out.size)).mono B00.out.size))
              clear hb5 hb6
              go_ret
              exact ⟨rfl, HFin.out⟩
            · have t3 : (e' != 0) = true := by simp [he]
              have hc := valueS_clean (st := (bs, 0)) (fun h => absurd rfl h)
              rw [HVs.out] at hc
              obtain ⟨hc1, hc2⟩ := hc
              obtain rfl : r' = [] := hc1 he
              have hc3 := hc2 he
              injection hc3 with hc3 hc4
              subst hc3 hc4
              clear hc1 hc2 he
              simp only [List.length_nil] at hX2 y1
              have HR6 : Hold (RAt 131 h J2 X2 ([], e')) := ⟨HR6.out⟩
              go_wp2_with fail
              refine (err_calls h J2 X2 _ HR6.out).mono ?_
              rintro e x3 ⟨rfl, rfl⟩
              go_wp2_with (first
                | (go_at_call 13; (refine (alive_calls X2).mono ?_); rintro e x5 ⟨rfl, HBa⟩)
                | (go_at_call 31; (refine (rest_calls h J2 x5 _ (HR6.out.below HBa.out) (by simp)).mono ?_); rintro e x6 ⟨A8, c8, rfl, HO8, HBr⟩; have hy := ((HBa.out.trans (HBr.out.mono HBa.out.size)).block v HVl.out).trans HV6.out; have y2 : x6.cell? ⟨v, 0, none⟩ = some (.int .i64 0) := (by simp [World.cell?, hy]); have y3 : x6.cell? ⟨v, 1, none⟩ = some (.slice A6 0 c6) := (by simp [World.cell?, hy])))
              have hb6 : Below X2.heap.size X2 x6 := HBa.out.trans (HBr.out.mono HBa.out.size)
              have HFin := Hold.mk (B00.out.trans ((V.out.trans (hb6.mono V.out.size)).mono B00.out.size))
              clear hb6
              go_ret
              exact ⟨rfl, HFin.out⟩
    -- END
  · have hbig : 150 < ns.length ∨ (ns.length ≤ 150 ∧ 150 < p.length) ∨ (ns.length ≤ 150 ∧ p.length ≤ 150 ∧ 3000 < bs.length) := by omega
    rcases hbig with h1 | ⟨h1, h2⟩ | ⟨h1, h2, h3⟩
    · have t0 : decide ((150 : Int) < (ns.length : Int)) = true := decide_eq_true (by omega)
      clear hn h1
      go_enter Try.func5, Try.ntmps5
      go_wp2_with fail
      refine (alive_calls _).mono ?_
      rintro e w7 ⟨rfl, Q7⟩
      go_wp2
      go_ret
      exact ⟨rfl, ((Below.refl _ _).alloc (Nat.le_refl _) _).trans (Q7.out.mono (by simp))⟩
    · have t0 : decide ((150 : Int) < (ns.length : Int)) = false := decide_eq_false (by omega)
      have t1 : decide ((150 : Int) < (p.length : Int)) = true := decide_eq_true (by omega)
      clear hn h1 h2
      go_enter Try.func5, Try.ntmps5
      go_wp2_with fail
      refine (alive_calls _).mono ?_
      rintro e w7 ⟨rfl, Q7⟩
      go_wp2
      go_ret
      exact ⟨rfl, ((Below.refl _ _).alloc (Nat.le_refl _) _).trans (Q7.out.mono (by simp))⟩
    · have t0 : decide ((150 : Int) < (ns.length : Int)) = false := decide_eq_false (by omega)
      have t1 : decide ((150 : Int) < (p.length : Int)) = false := decide_eq_false (by omega)
      have t2 : decide ((3000 : Int) < (bs.length : Int)) = true := decide_eq_true (by omega)
      clear hn h1 h2 h3
      go_enter Try.func5, Try.ntmps5
      go_wp2_with fail
      refine (alive_calls _).mono ?_
      rintro e w7 ⟨rfl, Q7⟩
      go_wp2
      go_ret
      exact ⟨rfl, ((Below.refl _ _).alloc (Nat.le_refl _) _).trans (Q7.out.mono (by simp))⟩
end Go.Proofs.Ytebhclgnpnlekaa.OctBack
