/- OctetReads, by its walk. -/
import Derived.Test.YtebhclgnpnlekaaSame
import Derived.Test.YtebhclgnpnlekaaOctLaw
namespace Go.Proofs.Ytebhclgnpnlekaa.OctLaw
open Go.RowKit Go.Proofs.Ytebhclgnpnlekaa.B Go.Proofs.Ytebhclgnpnlekaa.Cmd Go.Proofs.Ytebhclgnpnlekaa.Oct Go.Proofs.Ytebhclgnpnlekaa.Rd

section
theorem dec_len (i : Nat) (n u : Int) (l : List Int) (m : Int) (r : List Int) (h : dec i n u l = .ok m r) : r.length ≤ l.length := by
  induction l generalizing i n u with
  | nil => simp only [dec] at h; split at h <;> cases h
  | cons x xs ih =>
    simp only [dec] at h
    split at h
    · cases h
    · split at h
      · split at h
        · cases h
        · cases h; simp
      · have := ih _ _ _ h; simp only [List.length_cons]; omega
theorem numS_shr (st : RSt) : (numS st).2.1.length ≤ st.1.length := by
  unfold numS
  split
  · exact Nat.le_refl _
  · split
    · rename_i n r h; exact dec_len _ _ _ _ _ _ h
    · simp
    · simp
theorem numsS_shr (k : Nat) (st : RSt) : (numsS k st).2.1.length ≤ st.1.length := by
  induction k with
  | zero => exact Nat.le_refl _
  | succ k ih => exact Nat.le_trans (numS_shr _) ih
theorem cmdS_shr (st : RSt) : (cmdS st).2.1.length ≤ st.1.length := by
  unfold cmdS
  split
  · exact numsS_shr _ _
  · split
    · exact numsS_shr _ _
    · simp
theorem cmdsK_shr (k : Nat) (st : RSt) : (cmdsK k st).2.1.length ≤ st.1.length := by
  induction k with
  | zero => exact Nat.le_refl _
  | succ k ih => exact Nat.le_trans (cmdS_shr _) ih
theorem cmdsS_shr (st : RSt) : (cmdsS st).2.1.length ≤ st.1.length := by
  unfold cmdsS
  split
  · simp
  · split
    · exact Nat.le_trans (cmdsK_shr _ _) (numS_shr _)
    · exact Nat.le_trans (cmdsK_shr _ _) (numS_shr _)
theorem valueS_shr (st : RSt) : (valueS st).2.1.length ≤ st.1.length := by
  unfold valueS
  split
  · split
    · exact Nat.le_trans (cmdsS_shr _) (numS_shr _)
    · exact Nat.le_trans (cmdsS_shr _) (numS_shr _)
  · simp
end
theorem own_frC {α : Type} {d : Rep α} {e : TypeId} {base : Nat} {M : Nat → Prop} {w w' : World} {v : Value} {xs : List α} (h : Rep.Own d e base nob w v xs) (hf : Fr M w w') (hM : ∀ j, v.ownBlock = some j → ¬ M j) : Rep.Own d e base nob w' v xs :=
  h.move (fun j hj => hf.block j (h.block_lt j hj).2 (hM j hj)) (fun _ h _ _ => h.elim)
theorem Fr.its_below {g base : Nat} {w w' : World} (hf : Fr (Its g) w w') (hg : base ≤ g) (hs : base ≤ w.heap.size) : Below base w w' :=
  ⟨hf.os, hf.tape, hf.output, hf.size, fun k hk => hf.block k (Nat.lt_of_lt_of_le hk hs) (fun e => by have e : k = g := e; omega)⟩
/-- The two readers, side by side. -/
structure Two (base g h m : Nat) (w : World) (st : RSt) : Prop where
  d : RAt 131 g (fun k => base ≤ k ∧ k < m) w st
  r : RAt 40 h (fun k => m ≤ k ∧ k < h) w st
  bg : base ≤ g
  gm : g < m
  mh : m ≤ h
  hs : h < w.heap.size
  len : st.1.length ≤ 3000
section
variable {base g h m : Nat} {w w1 w2 : World} {st st' : RSt}
theorem Two.below (t : Two base g h m w st) (hb : Below w.heap.size w w1) : Two base g h m w1 st := ⟨t.d.below hb, t.r.below hb, t.bg, t.gm, t.mh, Nat.lt_of_lt_of_le t.hs hb.size, t.len⟩
theorem Two.ok (t : Two base g h m w st) : ∀ k, (base ≤ k ∧ k < m) → k < w.heap.size := fun k hk => by have := t.mh; have := t.hs; omega
theorem Two.ref (t : Two base g h m w st) (hf : Fr (Its g) w w1) : RAt 40 h (fun k => m ≤ k ∧ k < h) w1 st := t.r.frJ hf (fun e => by have e : h = g := e; have := t.gm; have := t.mh; omega) (fun k e hj => by have e : k = g := e; have := t.gm; omega)
theorem Two.ok2 (t : Two base g h m w st) (hf : Fr (Its g) w w1) : ∀ k, (m ≤ k ∧ k < h) → k < w1.heap.size := fun k hk => by have := t.hs; have := hf.size; omega
theorem Two.step (t : Two base g h m w st) (hd : RAt 131 g (fun k => base ≤ k ∧ k < m) w1 st') (hf : Fr (Its g) w w1) (hr : RAt 40 h (fun k => m ≤ k ∧ k < h) w2 st') (hf2 : Fr (Its h) w1 w2) (hl : st'.1.length ≤ st.1.length) : Two base g h m w2 st' :=
  ⟨hd.frJ hf2 (fun e => by have e : g = h := e; have := t.gm; have := t.mh; omega) (fun k e hj => by have e : k = h := e; have := t.mh; omega), hr, t.bg, t.gm, t.mh, by have := t.hs; have := hf.size; have := hf2.size; omega, Nat.le_trans hl t.len⟩
theorem Two.under (t : Two base g h m w st) (hf : Fr (Its g) w w1) (hf2 : Fr (Its h) w1 w2) : Below base w w2 := by
  have h1 : base ≤ w.heap.size := by have := t.bg; have := t.gm; have := t.mh; have := t.hs; omega
  exact (Fr.its_below hf t.bg h1).trans (Fr.its_below hf2 (by have := t.bg; have := t.gm; have := t.mh; omega) (Nat.le_trans h1 hf.size))
end

/-- What the document's reader shows. -/
theorem seen {T : TypeId} {A : Option Addr} {c h : Nat} {er : Int} {rs : List Int} {J : Nat → Prop} {X w : World} (e1 : X.heap[h]? = some (.cells #[.slice A rs.length c, .int .i64 er] T (0, 0))) (e4 : Rep.Row (Rep.int .u8) J X A rs) (hb : Below X.heap.size X w) :
    w.cell? ⟨h, 0, none⟩ = some (.slice A rs.length c) ∧ w.cell? ⟨h, 1, none⟩ = some (.int .i64 er) ∧ (Go.convert 25 9 (.slice A rs.length c)).run Try.prog w = .ok (.string (strOfNums rs)) w := by
  have h1 := (hb.block h (Array.getElem?_eq_some_iff.1 e1).1).trans e1
  exact ⟨by simp [World.cell?, h1], by simp [World.cell?, h1], Rep.row_string (P := Try.prog) (A := A) (c := c) Try.underlying25 Try.underlying5 Try.underlying9 (e4.below hb)⟩

set_option maxRecDepth 100000 in
set_option maxHeartbeats 8000000 in
theorem reads_law (A0 : Option Addr) (c0 : Nat) (bs : List Int) (A1 : Option Addr) (c1 : Nat) (ops : List Int) (w : World) (_h0 : bs.length ≤ c0) (n0 : A0 = none → c0 = 0) (r0 : Rep.Row (Rep.int .u8) (fun _ => True) w A0 bs)
    (_h1 : ops.length ≤ c1) (_n1 : A1 = none → c1 = 0) (r1 : Rep.Row (Rep.int .u8) (fun _ => True) w A1 ops) :
    Calls Try.prog 4 #[.slice A0 bs.length c0, .slice A1 ops.length c1] w fun e w' => e = .returned (.bool true) ∧ Below w.heap.size w w' := by
  have R0 := Hold.mk r0
  have R1 := Hold.mk r1
  have N0 := Hold.mk n0
  have m0 := r0.len_le
  have m1 := r1.len_le
  clear r0 r1 n0
  by_cases hn : bs.length ≤ 3000
  · have t0 : decide ((3000 : Int) < (bs.length : Int)) = false := decide_eq_false (by omega)
    by_cases hl : ops.length ≤ 150
    · have t1 : decide ((150 : Int) < (ops.length : Int)) = false := decide_eq_false (by omega)
      have HNl : Hold (bs.length ≤ 3000) := ⟨hn⟩
      obtain ⟨base, hbase⟩ : ∃ b, w.heap.size = b := ⟨_, rfl⟩
      have HBase := Hold.mk hbase
      clear hn hl hbase
      go_enter Try.func4, Try.ntmps4
      go_wp2_with fail
      refine (read_calls A0 c0 _ bs _ w rfl R0.out N0.out (by have := HNl.out; omega)).mono ?_
      rintro e w1 ⟨g, rfl, HG, HR1, HB1⟩
      have HR1g : Hold (g < w1.heap.size) := ⟨HR1.out.lt⟩
      go_wp2_with (at_builtin; refine Rep.wp_copy (Rep.int .u8) rfl (.tmp 21) (.tmp 22) 25 5 (.int .u8 0) 1 rfl Try.underlying25 info_u8 rfl (by decide) (by decide) (fun _ => True) bs A0 _ c0 rfl rfl rfl (R0.out.below HB1.out) N0.out ?c1 ?_)
      case c1 => have := HNl.out; omega
      intro A2 c2 w2 HO2 HC2 HB2
      obtain ⟨W3, hW3⟩ : ∃ W, w2.alloc (.cells #[.slice A2 bs.length c2, .int .i64 0] 40) = W := ⟨_, rfl⟩
      have HT3 : Hold (Two base g w2.heap.size w1.heap.size W3 (bs, 0)) := ⟨by
        have hb : Below w2.heap.size w2 W3 := by rw [← hW3]; exact (Below.refl _ _).alloc (Nat.le_refl _) _
        have hb1 : Below w1.heap.size w1 W3 := HB2.out.trans (hb.mono HB2.out.size)
        have hd := HR1.out.below hb1
        refine ⟨?_, ?_, by have := HG.out; have := HBase.out; omega, HR1g.out, HB2.out.size, by rw [← hW3]; simp, HNl.out⟩
        · obtain ⟨A, c, e1, e2, e3, e4⟩ := HR1.out
          exact ⟨A, c, (hb1.block g HR1g.out).trans e1, e2, e3, e4.move fun k hk hlt => ⟨⟨hk.1, by have := hk.2; have := HBase.out; omega, hlt⟩, hb1.block k hlt⟩⟩
        · refine ⟨A2, c2, ?_, HC2.out.1, HC2.out.2, (HO2.out.flat nob (Rep.flat_int _)).row.move ?_⟩
          · rw [← hW3]; exact Array.getElem?_push_size ..
          · intro k hk hlt
            have hk := HO2.out.block_lt k (hk.resolve_left (fun h => h.elim))
            exact ⟨⟨by omega, hk.1, hk.2⟩, hb.block k hlt⟩⟩
      have HBw3 : Hold (Below base w W3) := ⟨by
        have hb : Below w2.heap.size w2 W3 := by rw [← hW3]; exact (Below.refl _ _).alloc (Nat.le_refl _) _
        have := HBase.out
        exact (HB1.out.mono (by omega)).trans ((HB2.out.mono (by have := HB1.out.size; omega)).trans (hb.mono (by have := HB1.out.size; have := HB2.out.size; omega)))⟩
      obtain ⟨h, hh⟩ : ∃ h, w2.heap.size = h := ⟨_, rfl⟩
      obtain ⟨m, hm⟩ : ∃ m, w1.heap.size = m := ⟨_, rfl⟩
      rw [hh, hm] at HT3
      clear hm
      go_wp2
      go_loopw [7] (fun s wr => ∃ (i : Nat) (st : RSt), i ≤ ops.length ∧ s = .int .i64 (i : Int) ∧ Hold (Two base g h m wr st) ∧ Hold (Below base w wr)) (fun s _ => ops.length - (intOf s).toNat)
      case atStart => exact ⟨0, (bs, 0), by omega, rfl, HT3, HBw3⟩
      case round =>
        obtain ⟨i, st, hi, rfl, HT, HB⟩ := hrel
        by_cases hlt : i < ops.length
        · have l1 : (i : Int) < (ops.length : Int) := by omega
          obtain ⟨ad, x, rfl, hx, hcell, hwx⟩ := Rep.Row.get (R1.out.below (by rw [HBase.out]; exact HB.out)) i hlt
          obtain ⟨x0, x1⟩ := bounds_u8 hwx
          have hq : x % 4 = 0 ∨ x % 4 = 1 ∨ x % 4 = 2 ∨ x % 4 = 3 := by omega
          clear hx hwx
          rcases hq with q | q | q | q
          · obtain ⟨rs, er, hst⟩ : ∃ r e, (numS st).2 = (r, e) := ⟨_, _, rfl⟩
            have HSt := Hold.mk hst
            have HShr : Hold ((rs, er).1.length ≤ st.1.length) := ⟨by rw [← hst]; exact numS_shr st⟩
            clear hst
            go_wp2_with fail
            refine (num_calls g _ wr st HT.out.d).mono ?_
            rintro e w4 ⟨rfl, hd4, hf4⟩
            rw [HSt.out] at hd4
            have HD4 := Hold.mk hd4
            have HF4 := Hold.mk hf4
            have HR4 := Hold.mk (HT.out.ref hf4)
            clear hd4 hf4
            go_wp2_with fail
            refine (refNum_calls h _ w4 st HR4.out).mono ?_
            rintro e w5 ⟨rfl, hr5, hf5⟩
            rw [HSt.out] at hr5
            have HT5 := Hold.mk (HT.out.step HD4.out HF4.out hr5 hf5 HShr.out)
            have HB5 : Hold (Below base w w5) := ⟨HB.out.trans (HT.out.under HF4.out hf5)⟩
            have HF5 := Hold.mk hf5
            clear hr5 hf5
            have HTX := HT5
            have HBX := HB5
            obtain ⟨A6, c6, e1, _, _, e4⟩ := HTX.out.r
            have HE1 := Hold.mk e1
            have HE4 := Hold.mk e4
            have qm6 := seen e1 e4 (below_drewN w5 1)
            have HLen : Hold (rs.length ≤ 3000) := ⟨HTX.out.len⟩
            clear e1 e4
            go_wp2_with fail
            go_region_held_law (fun w' => w'.cell? ⟨h, 0, none⟩ = some (.slice A6 rs.length c6) ∧ w'.cell? ⟨h, 1, none⟩ = some (.int .i64 er) ∧ (Go.convert 25 9 (.slice A6 rs.length c6)).run Try.prog w' = .ok (.string (strOfNums rs)) w') (first | exact qm6 | exact qm7) (first
              | (go_at_call 31; (refine (rest_calls g _ w5.drew (rs, er) (HTX.out.below (below_drewN w5 1)).d (by have := HLen.out; show rs.length ≤ _; omega)).mono ?_); rintro e w7 ⟨A7, c7, rfl, HO7, HB7⟩; have HT7 := Hold.mk ((HTX.out.below (below_drewN w5 1)).below HB7.out); have qb := Rep.row_string (P := Try.prog) (A := A7) (c := c7) Try.underlying25 Try.underlying5 Try.underlying9 HO7.out.row; have qm7 := seen HE1.out HE4.out ((below_drewN w5 1).trans HB7.out))
              | (go_at_call 32; (refine (err_calls g _ w7 (rs, er) HT7.out.d).mono ?_); rintro e w8 ⟨rfl, rfl⟩))
            go_wp2
            have HB8 : Hold (Below base w w7) := ⟨HBX.out.trans (((below_drewN w5 1).trans HB7.out).mono (by have := HTX.out.hs; have := HTX.out.mh; have := HTX.out.gm; have := HTX.out.bg; omega))⟩
            exact ⟨⟨i + 1, (rs, er), by omega, by go_num, HT7, HB8⟩, by simp [intOf]; omega⟩
          · obtain ⟨rs, er, hst⟩ : ∃ r e, (cmdS st).2 = (r, e) := ⟨_, _, rfl⟩
            have HSt := Hold.mk hst
            have HShr : Hold ((rs, er).1.length ≤ st.1.length) := ⟨by rw [← hst]; exact cmdS_shr st⟩
            clear hst
            go_wp2_with fail
            refine (cmd_calls g _ wr st HT.out.d HT.out.ok).mono ?_
            rintro e w4 ⟨rfl, hd4, hf4, _⟩
            rw [HSt.out] at hd4
            have HD4 := Hold.mk hd4
            have HF4 := Hold.mk hf4
            have HR4 := Hold.mk (HT.out.ref hf4)
            clear hd4 hf4
            go_wp2_with fail
            refine (refCmd_calls h _ w4 st HR4.out (HT.out.ok2 HF4.out)).mono ?_
            rintro e w5 ⟨rfl, hr5, hf5, _⟩
            rw [HSt.out] at hr5
            have HT5 := Hold.mk (HT.out.step HD4.out HF4.out hr5 hf5 HShr.out)
            have HB5 : Hold (Below base w w5) := ⟨HB.out.trans (HT.out.under HF4.out hf5)⟩
            have HF5 := Hold.mk hf5
            clear hr5 hf5
            have HTX := HT5
            have HBX := HB5
            obtain ⟨A6, c6, e1, _, _, e4⟩ := HTX.out.r
            have HE1 := Hold.mk e1
            have HE4 := Hold.mk e4
            have qm6 := seen e1 e4 (below_drewN w5 1)
            have HLen : Hold (rs.length ≤ 3000) := ⟨HTX.out.len⟩
            clear e1 e4
            go_wp2_with fail
            go_region_held_law (fun w' => w'.cell? ⟨h, 0, none⟩ = some (.slice A6 rs.length c6) ∧ w'.cell? ⟨h, 1, none⟩ = some (.int .i64 er) ∧ (Go.convert 25 9 (.slice A6 rs.length c6)).run Try.prog w' = .ok (.string (strOfNums rs)) w') (first | exact qm6 | exact qm7) (first
              | (go_at_call 31; (refine (rest_calls g _ w5.drew (rs, er) (HTX.out.below (below_drewN w5 1)).d (by have := HLen.out; show rs.length ≤ _; omega)).mono ?_); rintro e w7 ⟨A7, c7, rfl, HO7, HB7⟩; have HT7 := Hold.mk ((HTX.out.below (below_drewN w5 1)).below HB7.out); have qb := Rep.row_string (P := Try.prog) (A := A7) (c := c7) Try.underlying25 Try.underlying5 Try.underlying9 HO7.out.row; have qm7 := seen HE1.out HE4.out ((below_drewN w5 1).trans HB7.out))
              | (go_at_call 32; (refine (err_calls g _ w7 (rs, er) HT7.out.d).mono ?_); rintro e w8 ⟨rfl, rfl⟩))
            go_wp2
            have HB8 : Hold (Below base w w7) := ⟨HBX.out.trans (((below_drewN w5 1).trans HB7.out).mono (by have := HTX.out.hs; have := HTX.out.mh; have := HTX.out.gm; have := HTX.out.bg; omega))⟩
            exact ⟨⟨i + 1, (rs, er), by omega, by go_num, HT7, HB8⟩, by simp [intOf]; omega⟩
          · obtain ⟨rs, er, hst⟩ : ∃ r e, (cmdsS st).2 = (r, e) := ⟨_, _, rfl⟩
            have HSt := Hold.mk hst
            have HShr : Hold ((rs, er).1.length ≤ st.1.length) := ⟨by rw [← hst]; exact cmdsS_shr st⟩
            clear hst
            go_wp2_with fail
            refine (cmds_calls g _ wr st HT.out.d HT.out.ok).mono ?_
            rintro e w4 ⟨A4, c4, rfl, HO4, ⟨hd4⟩, ⟨hf4⟩⟩
            rw [HSt.out] at hd4
            have HD4 := Hold.mk hd4
            have HF4 := Hold.mk hf4
            have HR4 := Hold.mk (HT.out.ref hf4)
            clear hd4 hf4
            go_wp2_with fail
            refine (refCmds_calls h _ w4 st HR4.out (HT.out.ok2 HF4.out)).mono ?_
            rintro e w5 ⟨A5, c5, rfl, HO5, ⟨hr5⟩, ⟨hf5⟩⟩
            rw [HSt.out] at hr5
            have HT5 := Hold.mk (HT.out.step HD4.out HF4.out hr5 hf5 HShr.out)
            have HB5 : Hold (Below base w w5) := ⟨HB.out.trans (HT.out.under HF4.out hf5)⟩
            have HF5 := Hold.mk hf5
            clear hr5 hf5
            obtain ⟨xs, hxs⟩ : ∃ xs, (cmdsS st).1 = xs := ⟨_, rfl⟩
            rw [hxs] at HO4 HO5 ⊢
            have HO4' := Hold.mk (own_frC (w' := w5) HO4.out HF5.out (fun j hj e => by have := (HO4.out.block_lt j hj).1; have := HT.out.hs; have e : j = h := e; omega))
            clear hxs
            go_wp2_with fail
            refine (same_calls A4 A5 c4 c5 _ _ xs xs _ _ w5 rfl rfl HO4'.out.row HO5.out.row).mono ?_
            rintro e wx ⟨rfl, k, hwx⟩
            rw [decide_eq_true (rfl : xs = xs)]
            have HTX : Hold (Two base g h m wx (rs, er)) := ⟨by rw [hwx]; exact HT5.out.below (below_drewN w5 k)⟩
            have HBX : Hold (Below base w wx) := ⟨by rw [hwx]; exact HB5.out.trans ((below_drewN w5 k).mono (by have := HT5.out.hs; have := HT5.out.mh; have := HT5.out.gm; have := HT5.out.bg; omega))⟩
            clear hwx
            obtain ⟨A6, c6, e1, _, _, e4⟩ := HTX.out.r
            have HE1 := Hold.mk e1
            have HE4 := Hold.mk e4
            have qm6 := seen e1 e4 (below_drewN wx 1)
            have HLen : Hold (rs.length ≤ 3000) := ⟨HTX.out.len⟩
            clear e1 e4
            go_wp2_with fail
            go_region_held_law (fun w' => w'.cell? ⟨h, 0, none⟩ = some (.slice A6 rs.length c6) ∧ w'.cell? ⟨h, 1, none⟩ = some (.int .i64 er) ∧ (Go.convert 25 9 (.slice A6 rs.length c6)).run Try.prog w' = .ok (.string (strOfNums rs)) w') (first | exact qm6 | exact qm7) (first
              | (go_at_call 31; (refine (rest_calls g _ wx.drew (rs, er) (HTX.out.below (below_drewN wx 1)).d (by have := HLen.out; show rs.length ≤ _; omega)).mono ?_); rintro e w7 ⟨A7, c7, rfl, HO7, HB7⟩; have HT7 := Hold.mk ((HTX.out.below (below_drewN wx 1)).below HB7.out); have qb := Rep.row_string (P := Try.prog) (A := A7) (c := c7) Try.underlying25 Try.underlying5 Try.underlying9 HO7.out.row; have qm7 := seen HE1.out HE4.out ((below_drewN wx 1).trans HB7.out))
              | (go_at_call 32; (refine (err_calls g _ w7 (rs, er) HT7.out.d).mono ?_); rintro e w8 ⟨rfl, rfl⟩))
            go_wp2
            have HB8 : Hold (Below base w w7) := ⟨HBX.out.trans (((below_drewN wx 1).trans HB7.out).mono (by have := HTX.out.hs; have := HTX.out.mh; have := HTX.out.gm; have := HTX.out.bg; omega))⟩
            exact ⟨⟨i + 1, (rs, er), by omega, by go_num, HT7, HB8⟩, by simp [intOf]; omega⟩
          · obtain ⟨rs, er, hst⟩ : ∃ r e, (valueS st).2 = (r, e) := ⟨_, _, rfl⟩
            have HSt := Hold.mk hst
            have HShr : Hold ((rs, er).1.length ≤ st.1.length) := ⟨by rw [← hst]; exact valueS_shr st⟩
            clear hst
            go_wp2_with fail
            refine (value_calls g _ wr st HT.out.d HT.out.ok).mono ?_
            rintro e w4 ⟨A4, c4, rfl, HO4, ⟨hd4⟩, ⟨hf4⟩, _⟩
            rw [HSt.out] at hd4
            have HD4 := Hold.mk hd4
            have HF4 := Hold.mk hf4
            have HR4 := Hold.mk (HT.out.ref hf4)
            clear hd4 hf4
            go_wp2_with fail
            refine (refValue_calls h _ w4 st HR4.out (HT.out.ok2 HF4.out)).mono ?_
            rintro e w5 ⟨A5, c5, rfl, HO5, ⟨hr5⟩, ⟨hf5⟩, _⟩
            rw [HSt.out] at hr5
            have HT5 := Hold.mk (HT.out.step HD4.out HF4.out hr5 hf5 HShr.out)
            have HB5 : Hold (Below base w w5) := ⟨HB.out.trans (HT.out.under HF4.out hf5)⟩
            have HF5 := Hold.mk hf5
            clear hr5 hf5
            obtain ⟨t, xs, hxs⟩ : ∃ t xs, (valueS st).1 = (t, xs) := ⟨_, _, rfl⟩
            rw [hxs] at HO4 HO5 ⊢
            have HO4' := Hold.mk (own_frC (w' := w5) HO4.out HF5.out (fun j hj e => by have := (HO4.out.block_lt j hj).1; have := HT.out.hs; have e : j = h := e; omega))
            clear hxs
            go_wp2_with fail
            refine (sameValue_calls A4 A5 c4 c5 _ _ t t xs xs _ _ w5 rfl rfl HO4'.out.row HO5.out.row rfl rfl).mono ?_
            rintro e wx ⟨rfl, hwx⟩
            have HTX : Hold (Two base g h m wx (rs, er)) := ⟨HT5.out.below hwx⟩
            have HBX : Hold (Below base w wx) := ⟨HB5.out.trans (hwx.mono (by have := HT5.out.hs; have := HT5.out.mh; have := HT5.out.gm; have := HT5.out.bg; omega))⟩
            clear hwx
            obtain ⟨A6, c6, e1, _, _, e4⟩ := HTX.out.r
            have HE1 := Hold.mk e1
            have HE4 := Hold.mk e4
            have qm6 := seen e1 e4 (below_drewN wx 1)
            have HLen : Hold (rs.length ≤ 3000) := ⟨HTX.out.len⟩
            clear e1 e4
            go_wp2_with fail
            go_region_held_law (fun w' => w'.cell? ⟨h, 0, none⟩ = some (.slice A6 rs.length c6) ∧ w'.cell? ⟨h, 1, none⟩ = some (.int .i64 er) ∧ (Go.convert 25 9 (.slice A6 rs.length c6)).run Try.prog w' = .ok (.string (strOfNums rs)) w') (first | exact qm6 | exact qm7) (first
              | (go_at_call 31; (refine (rest_calls g _ wx.drew (rs, er) (HTX.out.below (below_drewN wx 1)).d (by have := HLen.out; show rs.length ≤ _; omega)).mono ?_); rintro e w7 ⟨A7, c7, rfl, HO7, HB7⟩; have HT7 := Hold.mk ((HTX.out.below (below_drewN wx 1)).below HB7.out); have qb := Rep.row_string (P := Try.prog) (A := A7) (c := c7) Try.underlying25 Try.underlying5 Try.underlying9 HO7.out.row; have qm7 := seen HE1.out HE4.out ((below_drewN wx 1).trans HB7.out))
              | (go_at_call 32; (refine (err_calls g _ w7 (rs, er) HT7.out.d).mono ?_); rintro e w8 ⟨rfl, rfl⟩))
            go_wp2
            have HB8 : Hold (Below base w w7) := ⟨HBX.out.trans (((below_drewN wx 1).trans HB7.out).mono (by have := HTX.out.hs; have := HTX.out.mh; have := HTX.out.gm; have := HTX.out.bg; omega))⟩
            exact ⟨⟨i + 1, (rs, er), by omega, by go_num, HT7, HB8⟩, by simp [intOf]; omega⟩
        · obtain rfl : i = ops.length := by omega
          have hfd : ∀ w : World, (Instr.field 34 (.agg #[.int .i64 0, .slice none 0 0]) 0).run Try.prog w = .ok (.int .i64 0) w := fun _ => by kernel_rfl
          go_wp2_with (first
            | (go_at_call 13; refine (alive_calls wr).mono ?_; rintro e w7 ⟨rfl, HQ7⟩)
            | (go_at_call 21; refine (num_nil _).mono ?_; rintro e w6 ⟨rfl, rfl⟩)
            | (go_at_call 23; refine (cmd_nil _).mono ?_; rintro e w8 ⟨rfl, hb8⟩; have HQ8 := Hold.mk hb8; clear hb8)
            | (go_at_call 26; refine (cmds_nil _).mono ?_; rintro e w6 ⟨rfl, rfl⟩)
            | (go_at_call 29; refine (value_nil _).mono ?_; rintro e w9 ⟨rfl, hb9⟩; have HQ9 := Hold.mk hb9; clear hb9)
            | (go_at_call 31; refine (rest_nil _).mono ?_; rintro e w6 ⟨rfl, rfl⟩)
            | (go_at_call 32; refine (err_nil _).mono ?_; rintro e w6 ⟨rfl, rfl⟩))
          have hs : base ≤ wr.heap.size := by have := HT.out.hs; have := HT.out.mh; have := HT.out.gm; have := HT.out.bg; omega
          have hb7 : Below base w w7 := HB.out.trans (HQ7.out.mono hs)
          have hs7 : base ≤ w7.heap.size := Nat.le_trans hs HQ7.out.size
          have hb8 : Below base w w8 := hb7.trans (HQ8.out.mono hs7)
          have hb9 : Below base w w9 := hb8.trans (HQ9.out.mono (Nat.le_trans hs7 HQ8.out.size))
          have HB9 := Hold.mk hb9
          clear hb7 hb8 hb9 hs hs7
          go_ret
          refine ⟨rfl, ?_⟩
          rw [HBase.out]
          exact HB9.out
    · have t1 : decide ((150 : Int) < (ops.length : Int)) = true := decide_eq_true (by omega)
      clear hn hl
      go_enter Try.func4, Try.ntmps4
      go_wp2_with fail
      refine (alive_calls w).mono ?_
      rintro e w7 ⟨rfl, Q7⟩
      go_wp2
      go_ret
      exact ⟨rfl, Q7.out⟩
  · have t0 : decide ((3000 : Int) < (bs.length : Int)) = true := decide_eq_true (by omega)
    clear hn
    go_enter Try.func4, Try.ntmps4
    go_wp2_with fail
    refine (alive_calls w).mono ?_
    rintro e w7 ⟨rfl, Q7⟩
    go_wp2
    go_ret
    exact ⟨rfl, Q7.out⟩
end Go.Proofs.Ytebhclgnpnlekaa.OctLaw
