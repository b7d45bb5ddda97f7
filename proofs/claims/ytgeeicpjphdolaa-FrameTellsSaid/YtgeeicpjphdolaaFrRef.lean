/- lictorref07.powers, factors, Sum by their walks; no condition but that the bytes are read, and few. -/
import Derived.Test.YtgeeicpjphdolaaFrDiv
import Derived.Test.YtgeeicpjphdolaaP
namespace Go.Proofs.Ytgeeicpjphdolaa.Frame
open Go.RowKit Go.Proofs.Ytgeeicpjphdolaa.B

theorem info_int : (Try.prog.info? 3).map (fun i => (i.zero, i.size, i.bytes)) = some (some (.int .i64 0), 1, 8) := by kernel_rfl
/-- A row of ints of the call's own. -/
structure IO (w0 w : World) (v : Value) (xs : List Int) : Prop where
  own : Rep.Own (Rep.int .i64) 3 w0.heap.size nob w v xs
  bel : Below w0.heap.size w0 w
theorem IO.nil (w0 : World) : IO w0 w0 (.slice none 0 0) [] := ⟨Rep.Own.nil _ _ _ _ _, Below.refl _ _⟩
theorem add_off (g j : Nat) : (⟨g, 0, none⟩ : Addr).add j = ⟨g, j, none⟩ := by unfold Addr.add; split <;> simp_all
theorem wf_bit (b : Bool) : (Lit.int .i64 (bit b)).wf = true := by cases b <;> decide
def rowM (b : List Int) : List Int := (mbits b).map bit
theorem rowM_length (b : List Int) : (rowM b).length = 8 * b.length := by rw [rowM, List.length_map, mbits_length]
theorem rowM_snoc (l : List Int) (x : Nat) : rowM (l ++ [(x : Int)]) = rowM l ++ (List.range 8).map fun k => ((x / 2 ^ k % 2 : Nat) : Int) := by
  simp only [rowM, mbits, List.flatMap_append, List.map_append, List.flatMap_cons, List.flatMap_nil, List.append_nil, Int.toNat_natCast]
  congr 1
  rw [bits8, List.map_map]
  refine List.map_congr_left fun k _ => ?_
  show bit (x.testBit k) = _
  rw [Nat.testBit_eq_decide_div_mod_eq]
  rcases Nat.mod_two_eq_zero_or_one (x / 2 ^ k) with h | h <;> rw [h] <;> rfl
def flipTo (m : List Bool) (j : Nat) : List Int := (List.range (m.length + 32)).map fun p => bit (m.getD p false ^^ decide (p < j))
theorem flipTo_length (m : List Bool) (j : Nat) : (flipTo m j).length = m.length + 32 := by simp [flipTo]
theorem flipTo_get (m : List Bool) (j q : Nat) (hq : q < m.length + 32) : (flipTo m j).getD q 0 = bit (m.getD q false ^^ decide (q < j)) := by
  rw [List.getD_eq_getElem?_getD, flipTo, List.getElem?_map, List.getElem?_range hq]; rfl
theorem flipTo_zero (m : List Bool) : m.map bit ++ List.replicate 32 0 = flipTo m 0 := by
  refine ext_getD (by simp [flipTo]) fun q hq => ?_
  rw [List.length_append, List.length_map, List.length_replicate] at hq
  rw [flipTo_get m 0 q hq]
  simp only [Nat.not_lt_zero, decide_false, Bool.xor_false]
  rw [List.getD_eq_getElem?_getD, List.getD_eq_getElem?_getD]
  by_cases h : q < m.length
  · rw [List.getElem?_append_left (by simpa using h), List.getElem?_map, List.getElem?_eq_getElem h]; rfl
  · rw [List.getElem?_append_right (by simpa using h), List.getElem?_eq_none (l := m) (by omega), List.getElem?_replicate]
    split <;> rfl
theorem flipTo_succ (m : List Bool) (j : Nat) (hj : j < 32) : (flipTo m j).set j (1 - (flipTo m j).getD j 0) = flipTo m (j + 1) := by
  refine ext_getD (by simp [flipTo]) fun q hq => ?_
  rw [List.length_set, flipTo_length] at hq
  rw [flipTo_get m (j + 1) q hq]
  by_cases e : q = j
  · subst e
    rw [List.getD_eq_getElem?_getD, List.getElem?_set_self (by rw [flipTo_length]; exact hq), Option.getD_some, flipTo_get m q q hq, one_sub_bit, decide_eq_false (Nat.lt_irrefl q), decide_eq_true (Nat.lt_succ_self q)]
    simp
  · rw [List.getD_eq_getElem?_getD, List.getElem?_set_ne (by omega), ← List.getD_eq_getElem?_getD, flipTo_get m j q hq]
    congr 2
    exact decide_eq_decide.2 (by omega)
theorem FF_bit (p : Nat) : FF.testBit p = decide (p < 32) := by
  have : FF = 2 ^ 32 - 1 := by decide
  rw [this, Nat.testBit_two_pow_sub_one]
theorem flipTo_win (m : List Bool) : flipTo m 32 = win m FF 0 := by
  refine ext_getD (by rw [flipTo_length, win_length]) fun q hq => ?_
  rw [flipTo_length] at hq
  rw [flipTo_get m 32 q hq, win_get m FF 0 q hq, FF_bit]
  simp

set_option maxRecDepth 10000 in
set_option maxHeartbeats 2000000 in
theorem factors_calls (A : Option Addr) (c : Nat) (bs : List Int) (I : Nat → Prop) (w : World) (hr : Rep.Row (Rep.int .u8) I w A bs) (hl : bs.length ≤ 1000000) :
    Calls Try.prog 75 #[.slice A bs.length c] w fun e w' => ∃ g c1, e = .returned (.slice (some ⟨g, 0, none⟩) (8 * bs.length + 32) c1) ∧ Hold (IO w w' (.slice (some ⟨g, 0, none⟩) (8 * bs.length + 32) c1) (win (mbits bs) FF 0)) := by
  have HR := Hold.mk hr
  have HL := Hold.mk hl
  have hlen := hr.len_le
  clear hr hl
  go_enter Try.func75, Try.ntmps75
  go_wp2
  go_loopw [3, 4] (fun v3 i wr => ∃ k : Nat, k ≤ bs.length ∧ i = .int .i64 (k : Int) ∧ Hold (IO w wr v3 (rowM (bs.take k)))) (fun _ i _ => bs.length - (intOf i).toNat)
  case atStart => exact ⟨0, Nat.zero_le _, rfl, ⟨IO.nil w⟩⟩
  case round =>
    obtain ⟨k, hk, rfl, HO⟩ := hrel
    by_cases hlt : k < bs.length
    · obtain ⟨ad, cs, rfl, _, _, ⟨rfl, hw⟩, hcell⟩ := (HR.out.move (J := fun k => k < w.heap.size) (w1 := wr) fun k _ hlt => ⟨hlt, HO.out.bel.block k hlt⟩).at k hlt
      have hc0 := hcell 0 _ rfl
      simp only [Rep.int, Nat.mul_one, Nat.add_zero] at hc0
      clear hcell
      have hb := bounds_u8 hw
      obtain ⟨x, hx⟩ := Int.eq_ofNat_of_zero_le hb.1
      have HX := Hold.mk hx
      rw [hx] at hc0 hb
      clear hx hw
      have hx1 := hb.2
      clear hb
      go_wp2
      go_loopw [3, 5, 6] (fun v3 v i wr => ∃ j y : Nat, j ≤ 8 ∧ i = .int .i64 (j : Int) ∧ v = .int .i64 (y : Int) ∧ (y : Int) ≤ 255 ∧ Hold (y = x / 2 ^ j) ∧ Hold (IO w wr v3 (rowM (bs.take k) ++ (List.range j).map fun k => ((x / 2 ^ k % 2 : Nat) : Int)))) (fun _ _ i _ => 8 - (intOf i).toNat)
      case atStart => exact ⟨0, x, by omega, rfl, rfl, by omega, ⟨by simp⟩, ⟨by simpa using HO.out⟩⟩
      case round =>
        obtain ⟨j, y, hj, rfl, rfl, hy, HY, HO2⟩ := hrel
        by_cases hj8 : j < 8
        · rename_i v3 wr
          have HLn : Hold ((rowM (bs.take k) ++ (List.range j).map fun k => ((x / 2 ^ k % 2 : Nat) : Int)).length ≤ 8000016) := ⟨by simp only [List.length_append, rowM_length, List.length_take, List.length_map, List.length_range]; have := HL.out; omega⟩
          obtain ⟨L, hL⟩ : ∃ L, (rowM (bs.take k) ++ (List.range j).map fun k => ((x / 2 ^ k % 2 : Nat) : Int)) = L := ⟨_, rfl⟩
          rw [hL] at HO2 HLn
          have HLL := Hold.mk hL
          clear hL
          go_wp2_with (at_builtin; refine Rep.wp_push (Rep.int .i64) rfl (.tmp 24) (.tmp 27) 90 3 (.int .i64 0) 8 rfl Try.underlying90 info_int rfl (by decide) (by decide) w.heap.size nob nob u3 _ ((y : Int) % 2) [.int .i64 ((y : Int) % 2)] rfl rfl HO2.out.own ⟨rfl, ?c0⟩ (fun _ h _ => h.elim) HO2.out.bel.size ?c1 ?_)
          case c0 => exact WalkArith.wf_i64 (by omega)
          case c1 => have := HLn.out; omega
          intro A1 c1 w1 G
          go_wp2
          refine ⟨⟨j + 1, y / 2, by omega, by go_num, by go_num, by omega, ⟨?_⟩, ⟨?_⟩⟩, by simp [intOf]; omega⟩
          · rw [HY.out, Nat.div_div_eq_div_mul, Nat.pow_succ]
          · have e : L ++ [(y : Int) % 2] = rowM (bs.take k) ++ (List.range (j + 1)).map fun k => ((x / 2 ^ k % 2 : Nat) : Int) := by
              rw [← HLL.out, List.range_succ, List.map_append, List.append_assoc, HY.out]; rfl
            have h1 := G.out.own
            rw [e] at h1
            have hlq := congrArg List.length e
            rw [List.length_append, List.length_singleton] at hlq
            refine ⟨?_, HO2.out.bel.trans (G.out.below (fun k hk => (HO2.out.own.block_lt k hk).1) HO2.out.bel.size)⟩
            rw [← hlq] at h1
            exact h1
        · obtain rfl : j = 8 := by omega
          go_wp2
          refine ⟨⟨k + 1, by omega, by go_num, ⟨?_⟩⟩, by simp [intOf]; omega⟩
          have e : bs.take (k + 1) = bs.take k ++ [(x : Int)] := by rw [List.take_succ_eq_append_getElem hlt, HX.out]
          rw [e, rowM_snoc]
          exact HO2.out
    · obtain rfl : k = bs.length := by omega
      go_wp2
      have HO1 : Hold (IO w wr u3 (rowM bs)) := ⟨by have := HO.out; rwa [List.take_length] at this⟩
      go_loopw [3, 7] (fun v3 i wr => ∃ j : Nat, j ≤ 32 ∧ i = .int .i64 (j : Int) ∧ Hold (IO w wr v3 (rowM bs ++ List.replicate j 0))) (fun _ i _ => 32 - (intOf i).toNat)
      case atStart => exact ⟨0, by omega, rfl, ⟨by simpa using HO1.out⟩⟩
      case round =>
        obtain ⟨j, hj, rfl, HO2⟩ := hrel
        by_cases hj8 : j < 32
        · have HLn : Hold ((rowM bs ++ List.replicate j 0).length ≤ 8000064) := ⟨by have := HL.out; simp only [List.length_append, rowM_length, List.length_replicate]; omega⟩
          obtain ⟨L, hL⟩ : ∃ L, (rowM bs ++ List.replicate j 0) = L := ⟨_, rfl⟩
          rw [hL] at HO2 HLn
          have HLL := Hold.mk hL
          clear hL
          go_wp2_with (at_builtin; refine Rep.wp_push (Rep.int .i64) rfl (.tmp 35) (.tmp 36) 90 3 (.int .i64 0) 8 rfl Try.underlying90 info_int rfl (by decide) (by decide) w.heap.size nob nob u3 _ 0 [.int .i64 0] rfl rfl HO2.out.own ⟨rfl, by decide⟩ (fun _ h _ => h.elim) HO2.out.bel.size ?c1 ?_)
          case c1 => have := HLn.out; omega
          intro A1 c1 w1 G
          go_wp2
          refine ⟨⟨j + 1, by omega, by go_num, ⟨?_⟩⟩, by simp [intOf]; omega⟩
          have e : L ++ [0] = rowM bs ++ List.replicate (j + 1) 0 := by rw [← HLL.out, List.append_assoc, List.replicate_succ' (n := j)]
          have h1 := G.out.own
          rw [e] at h1
          have hlq := congrArg List.length e
          rw [List.length_append, List.length_singleton] at hlq
          refine ⟨?_, HO2.out.bel.trans (G.out.below (fun k hk => (HO2.out.own.block_lt k hk).1) HO2.out.bel.size)⟩
          rw [← hlq] at h1
          exact h1
        · obtain rfl : j = 32 := by omega
          go_wp2
          have HO3 : Hold (IO w wr u3 (flipTo (mbits bs) 0)) := ⟨by have := HO2.out; rw [rowM, flipTo_zero] at this; exact this⟩
          obtain ⟨g, c1, hv, hc1⟩ := HO3.out.own.form_pos (by rw [flipTo_length]; omega)
          rw [flipTo_length, mbits_length] at hv hc1
          subst hv
          go_loopw [8] (fun i wr => ∃ j : Nat, j ≤ 32 ∧ i = .int .i64 (j : Int) ∧ Hold (IO w wr (.slice (some ⟨g, 0, none⟩) (8 * bs.length + 32) c1) (flipTo (mbits bs) j))) (fun i _ => 32 - (intOf i).toNat)
          case atStart => exact ⟨0, by omega, rfl, HO3⟩
          case round =>
            obtain ⟨j, hj, rfl, HO4⟩ := hrel
            by_cases hj8 : j < 32
            · obtain ⟨ad, y, e1, hy, hcell, hwf⟩ := HO4.out.own.row.get j (by rw [flipTo_length]; omega)
              cases e1
              have hyb : y = (flipTo (mbits bs) j).getD j 0 := by rw [List.getD_eq_getElem?_getD, hy]; rfl
              have hy01 : y = 0 ∨ y = 1 := by
                rw [hyb, flipTo_get _ _ _ (by omega)]
                generalize ((mbits bs).getD j false ^^ decide (j < j)) = q
                cases q
                · exact .inl rfl
                · exact .inr rfl
              have ha := add_off g j
              rw [ha] at hcell
              obtain ⟨_, hfree, hown3, hg3⟩ := HO4.out.own.store j (1 - y) (by rw [flipTo_length]; omega) (by rcases hy01 with h | h <;> rw [h] <;> decide)
              have hb0 : 0 ≤ y := by omega
              have hb1 : y ≤ 1 := by omega
              have HYB := Hold.mk hyb
              have HW3 := Hold.mk hown3
              have HG3 := Hold.mk hg3
              have hin : (j : Int) < 8 * (bs.length : Int) + 32 := by omega
              have hinn : j < 8 * bs.length + 32 := by omega
              clear hyb hy01 hown3 hg3 hy hwf ha
              go_wp2
              refine ⟨⟨j + 1, by omega, by go_num, ⟨?_, HO4.out.bel.grown HG3.out HO4.out.bel.size (fun k h => by injection h with h; have := (HO4.out.own.block_lt g rfl).1; omega)⟩⟩, by simp [intOf]; omega⟩
              have := HW3.out
              have e := flipTo_succ (mbits bs) j hj8
              rw [← HYB.out] at e
              rw [e] at this
              exact this
            · obtain rfl : j = 32 := by omega
              go_wp2
              go_ret
              refine ⟨g, c1, rfl, ⟨?_⟩⟩
              have := HO4.out
              rw [flipTo_win] at this
              exact this

def pwI : List Int := [26, 23, 22, 16, 12, 11, 10, 8, 7, 5, 4, 2, 1, 0]
theorem pwI_get (k : Nat) (hk : k < 14) : pwI[k]? = some ((pws.getD k 0 : Nat) : Int) := by
  have : ∀ k, k < 14 → pwI[k]? = some ((pws.getD k 0 : Nat) : Int) := by decide
  exact this k hk
theorem powers_calls (w : World) : Calls Try.prog 76 #[] w fun e w' => ∃ g, e = .returned (.slice (some ⟨g, 0, none⟩) 14 14) ∧ Hold (Rep.Row (Rep.int .i64) (fun k => w.heap.size ≤ k) w' (some ⟨g, 0, none⟩) pwI) ∧ Hold (g = w.heap.size) ∧ Hold (Below w.heap.size w w') := by
  go_enter Try.func76, Try.ntmps76
  go_wp2
  go_ret
  refine ⟨w.heap.size, rfl, ⟨?_⟩, ⟨rfl⟩, ⟨(Below.refl _ _).alloc (Nat.le_refl _) _⟩⟩
  exact (Rep.row_lit w 3 (0, 0) pwI (by decide) (by decide)).move fun k hk _ => ⟨by omega, rfl⟩

theorem reg_zero (m : List Bool) : reg m 0 = FF := rfl
theorem win01 (m : List Bool) (R i q : Nat) (hq : q < m.length + 32) : (win m R i).getD q 0 = 0 ∨ (win m R i).getD q 0 = 1 := by
  rw [win_get m R i q hq]
  generalize (decide (i ≤ q) && (m.getD q false ^^ R.testBit (q - i))) = b
  cases b
  · exact .inl rfl
  · exact .inr rfl
def Zo (l : List Int) : Prop := ∀ x ∈ l, x = 0 ∨ x = 1
theorem Zo.getD {l : List Int} (h : Zo l) (q : Nat) : l.getD q 0 = 0 ∨ l.getD q 0 = 1 := by
  rw [List.getD_eq_getElem?_getD]
  cases hx : l[q]? with
  | none => exact .inl rfl
  | some x => exact h x (List.mem_of_getElem? hx)
theorem Zo.set {l : List Int} (h : Zo l) (q : Nat) {x : Int} (hx : x = 0 ∨ x = 1) : Zo (l.set q x) := fun y hy => by
  rcases List.mem_or_eq_of_mem_set hy with h1 | h1
  · exact h y h1
  · rw [h1]; exact hx
theorem Zo.flip {l : List Int} (h : Zo l) (q : Nat) : Zo (flip l q) := h.set q (by have := h.getD q; omega)
theorem Zo.win (m : List Bool) (R i : Nat) : Zo (win m R i) := fun x hx => by
  obtain ⟨q, hq, rfl⟩ := List.getElem_of_mem hx
  have := win01 m R i q (by rwa [win_length] at hq)
  rwa [List.getD_eq_getElem?_getD, List.getElem?_eq_getElem hq] at this
theorem flips_take_succ (k i : Nat) (hk : k < 14) (l : List Int) : flips (pws.take (k + 1)) i l = flip (flips (pws.take k) i l) (i + 32 - pws.getD k 0) := by
  have hk' : k < pws.length := hk
  unfold flips
  rw [List.take_succ_eq_append_getElem hk', List.foldl_append, List.getD_eq_getElem?_getD, List.getElem?_eq_getElem hk']
  rfl
theorem pws_le : ∀ k, k < 14 → pws.getD k 0 ≤ 26 := by decide
theorem Zo.flips {l : List Int} (h : Zo l) (ps : List Nat) (i : Nat) : Zo (flips ps i l) := by
  induction ps generalizing l with
  | nil => exact h
  | cons p ps ih => exact ih (h.flip _)
theorem tailS_lt (l : List Int) (h : Zo l) : ∀ j n, tailS l n j < 2 ^ j
  | 0, n => by simp [tailS]
  | j + 1, n => by
    have := tailS_lt l h j (n + 1)
    have h1 := h.getD n
    rw [tailS, Nat.pow_succ]
    have : (1 - l.getD n 0).toNat ≤ 1 := by rcases h1 with h1 | h1 <;> rw [h1] <;> decide
    omega

/-- A number of one's own row at a place, and a store there. -/
theorem IO.spot {w0 w : World} {g n c : Nat} {xs : List Int} (h : IO w0 w (.slice (some ⟨g, 0, none⟩) n c) xs) (q : Nat) (hq : q < xs.length) :
    w.cell? ⟨g, q, none⟩ = some (.int .i64 (xs.getD q 0)) ∧ w.frozen? ⟨g, q, none⟩ = false ∧ ∀ x : Int, (Lit.int .i64 x).wf = true → Hold (IO w0 (w.setCell ⟨g, q, none⟩ (.int .i64 x)) (.slice (some ⟨g, 0, none⟩) n c) (xs.set q x)) := by
  obtain rfl : n = xs.length := by
    obtain ⟨A, c, e, _⟩ := h.own.form
    injection e
  obtain ⟨ad, y, e1, hy, hcell, hwf⟩ := h.own.row.get q hq
  cases e1
  rw [add_off] at hcell
  have hyb : xs.getD q 0 = y := by rw [List.getD_eq_getElem?_getD, hy]; rfl
  rw [hyb]
  refine ⟨hcell, (h.own.store q 0 hq (by decide)).2.1, fun x hx => ?_⟩
  obtain ⟨_, _, h1, h2⟩ := h.own.store q x hq hx
  exact ⟨⟨h1, h.bel.grown h2 h.bel.size (fun k e => by injection e with e; have := (h.own.block_lt g rfl).1; omega)⟩⟩

set_option maxRecDepth 10000 in
set_option maxHeartbeats 2000000 in
theorem refSum_calls (A : Option Addr) (c : Nat) (bs : List Int) (I : Nat → Prop) (w : World) (hr : Rep.Row (Rep.int .u8) I w A bs) (hl : bs.length ≤ 1000000) :
    Calls Try.prog 22 #[.slice A bs.length c] w fun e w' => e = .returned (.int .u32 (crc bs : Int)) ∧ Hold (Below w.heap.size w w') := by
  have HD := Hold.mk (div_crc bs (Rep.row_wf hr))
  have hml := mbits_length bs
  have HR := Hold.mk hr
  have HL := Hold.mk hl
  obtain ⟨m, hm⟩ : ∃ m, mbits bs = m := ⟨_, rfl⟩
  rw [hm] at HD hml
  have HM := Hold.mk hm
  have HML := Hold.mk hml
  have hbnd : 8 * (bs.length : Int) ≤ 8000000 := by omega
  clear hr hl hm hml
  go_enter Try.func22, Try.ntmps22
  go_wp2_with fail
  refine (factors_calls A c bs I w HR.out HL.out).mono ?_
  rintro e w1 ⟨g, c1, rfl, HO⟩
  rw [HM.out] at HO
  go_wp2_with fail
  refine (powers_calls w1).mono ?_
  rintro e w2 ⟨gp, rfl, HP, HG, HB⟩
  have HO2 : Hold (IO w w2 (.slice (some ⟨g, 0, none⟩) (8 * bs.length + 32) c1) (win m FF 0)) := ⟨⟨HO.out.own.below HB.out, HO.out.bel.trans (HB.out.mono HO.out.bel.size)⟩⟩
  have HGg : Hold (g < gp) := ⟨by rw [HG.out]; exact (HO.out.own.block_lt g rfl).2⟩
  have HGg0 : Hold (w.heap.size ≤ g) := ⟨(HO.out.own.block_lt g rfl).1⟩
  have HPc : Hold (∀ k, k < 14 → w2.cell? ⟨gp, k, none⟩ = some (.int .i64 ((pws.getD k 0 : Nat) : Int))) := ⟨fun k hk => by
    obtain ⟨ad, x, e, hx, hc, _⟩ := HP.out.get k hk
    cases e
    rw [pwI_get k hk] at hx
    cases hx
    rwa [add_off] at hc⟩
  clear HO HP HB HG
  go_wp2
  go_loopw [6] (fun i wr => ∃ k : Nat, k ≤ 8 * bs.length ∧ i = .int .i64 (k : Int) ∧ Hold (IO w wr (.slice (some ⟨g, 0, none⟩) (8 * bs.length + 32) c1) (win m (reg m k) k)) ∧ Hold (∀ k, k < 14 → wr.cell? ⟨gp, k, none⟩ = some (.int .i64 ((pws.getD k 0 : Nat) : Int)))) (fun i _ => 8 * bs.length - (intOf i).toNat)
  case atStart => exact ⟨0, Nat.zero_le _, by go_num, HO2, HPc⟩
  case round =>
    obtain ⟨k, hk, rfl, HOr, HPr⟩ := hrel
    by_cases hlt : k < 8 * bs.length
    · obtain ⟨hc, hf, hst⟩ := HOr.out.spot k (by rw [win_length, HML.out]; omega)
      have HZ := Hold.mk (reg_lt m k)
      have HS := Hold.mk (reg_succ m k (by rw [HML.out]; exact hlt))
      have hkm : k < m.length := by rw [HML.out]; exact hlt
      by_cases hz : (win m (reg m k) k).getD k 0 = 0
      · have HW := Hold.mk (win_zero m (reg m k) k HZ.out hkm hz)
        rw [hz] at hc
        have hkn : k < 8 * bs.length + 32 := by omega
        clear hst hz hf hkm
        go_wp2
        refine ⟨⟨k + 1, by omega, by go_num, ⟨?_⟩, HPr⟩, by simp [intOf]; omega⟩
        rw [HS.out, ← HW.out]
        exact HOr.out
      · have HW := Hold.mk (win_one m (reg m k) k HZ.out hkm hz)
        obtain ⟨x, hx⟩ : ∃ x, (win m (reg m k) k).getD k 0 = x := ⟨_, rfl⟩
        rw [hx] at hc hz
        have hz' : (x == 0) = false := by simpa using hz
        have HO3 := hst 0 (by decide)
        obtain ⟨l0, hl0⟩ : ∃ l0, (win m (reg m k) k).set k 0 = l0 := ⟨_, rfl⟩
        have hl0n : l0.length = 8 * bs.length + 32 := by rw [← hl0, List.length_set, win_length, HML.out]
        have HZo : Hold (Zo l0) := ⟨by rw [← hl0]; exact (Zo.win _ _ _).set _ (.inl rfl)⟩
        rw [hl0] at HO3 HW
        have HL0 := Hold.mk hl0n
        have hkn : k < 8 * bs.length + 32 := by omega
        have HPs : Hold (∀ j, j < 14 → (wr.setCell ⟨g, k, none⟩ (.int .i64 0)).cell? ⟨gp, j, none⟩ = some (.int .i64 ((pws.getD j 0 : Nat) : Int))) := ⟨fun j hj => by
          rw [World.cell?_setCell_other]
          · exact HPr.out j hj
          · have := HGg.out; intro h; injection h with h; omega⟩
        clear hst hx hl0 hl0n hkm hz
        go_wp2
        go_loopw [7] (fun v wr => ∃ j : Nat, j ≤ 14 ∧ v = .int .i64 (j : Int) ∧ Hold (IO w wr (.slice (some ⟨g, 0, none⟩) (8 * bs.length + 32) c1) (flips (pws.take j) k l0)) ∧ Hold (∀ k, k < 14 → wr.cell? ⟨gp, k, none⟩ = some (.int .i64 ((pws.getD k 0 : Nat) : Int)))) (fun v _ => 14 - (intOf v).toNat)
        case atStart => exact ⟨0, by omega, rfl, HO3, HPs⟩
        case round =>
          obtain ⟨j, hj, rfl, HOj, HPj⟩ := hrel
          by_cases hj14 : j < 14
          · obtain ⟨p, hp⟩ : ∃ p, pws.getD j 0 = p := ⟨_, rfl⟩
            have hpc := HPj.out j hj14
            have hp26 := pws_le j hj14
            have HF := Hold.mk (flips_take_succ j k hj14 l0)
            rw [hp] at hpc hp26 HF
            obtain ⟨q, hq⟩ : ∃ q, k + 32 - p = q := ⟨_, rfl⟩
            rw [hq] at HF
            obtain ⟨hc', hf', hst'⟩ := HOj.out.spot q (by rw [flips_length, HL0.out]; omega)
            have hy01 := (HZo.out.flips (pws.take j) k).getD q
            obtain ⟨y, hy⟩ : ∃ y, (flips (pws.take j) k l0).getD q 0 = y := ⟨_, rfl⟩
            have HF2 : Hold (flips (pws.take (j + 1)) k l0 = (flips (pws.take j) k l0).set q (1 - y)) := ⟨by rw [HF.out, flip, hy]⟩
            rw [hy] at hc' hy01
            have HO5 := hst' (1 - y) (by rcases hy01 with h | h <;> rw [h] <;> decide)
            rw [← HF2.out] at HO5
            have hb0 : 0 ≤ y := by omega
            have hb1 : y ≤ 1 := by omega
            have HPs : Hold (∀ j, j < 14 → (wr.setCell ⟨g, q, none⟩ (.int .i64 (1 - y))).cell? ⟨gp, j, none⟩ = some (.int .i64 ((pws.getD j 0 : Nat) : Int))) := ⟨fun j hj => by
              rw [World.cell?_setCell_other]
              · exact HPj.out j hj
              · have := HGg.out; intro h; injection h with h; omega⟩
            have hpi : (p : Int) ≤ 26 := by omega
            have hqe : (k : Int) + 32 - (p : Int) = (q : Int) := by omega
            have hq2 : (q : Int) < 8 * (bs.length : Int) + 32 := by omega
            have hq2n : q < 8 * bs.length + 32 := by omega
            have hki : (k : Int) ≤ 8000000 := by omega
            clear hst' hy01 hy hp hq HF hp26
            go_wp2
            refine ⟨⟨j + 1, by omega, by go_num, HO5, HPs⟩, by simp [intOf]; omega⟩
          · obtain rfl : j = 14 := by omega
            go_wp2
            refine ⟨⟨k + 1, by omega, by go_num, ⟨?_⟩, HPj⟩, by simp [intOf]; omega⟩
            rw [HS.out, ← HW.out]
            exact HOj.out
    · obtain rfl : k = 8 * bs.length := by omega
      obtain ⟨l, hl⟩ : ∃ l, win m (reg m (8 * bs.length)) (8 * bs.length) = l := ⟨_, rfl⟩
      have hll : l.length = 8 * bs.length + 32 := by rw [← hl, win_length, HML.out]
      have HZo : Hold (Zo l) := ⟨by rw [← hl]; exact Zo.win _ _ _⟩
      have HT : Hold (tailS l (8 * bs.length) 32 = crc bs) := ⟨by rw [← hl]; have := HD.out; rw [HML.out] at this; exact this⟩
      rw [hl] at HOr
      have HLL := Hold.mk hll
      clear hl hll HPr
      go_wp2
      go_loop [9, 10] (fun s i => ∃ j st : Nat, j ≤ 32 ∧ i = .int .i64 (8 * (bs.length : Int) + 31 - (j : Int)) ∧ s = .int .u32 (st : Int) ∧ Hold (st = tailS l (8 * bs.length + 32 - j) j)) (fun _ i => (intOf i + 1 - 8 * (bs.length : Int)).toNat)
      case atStart => exact ⟨0, 0, by omega, by go_num, rfl, ⟨rfl⟩⟩
      case round =>
        obtain ⟨j, st, hj, rfl, rfl, HS⟩ := hrel
        by_cases hj32 : j < 32
        · obtain ⟨q, hq⟩ : ∃ q, 8 * bs.length + 31 - j = q := ⟨_, rfl⟩
          obtain ⟨hc, _, _⟩ := HOr.out.spot q (by rw [HLL.out]; omega)
          have hy01 := HZo.out.getD q
          obtain ⟨y, hy⟩ : ∃ y, l.getD q 0 = y := ⟨_, rfl⟩
          have hst := tailS_lt l HZo.out j (8 * bs.length + 32 - j)
          rw [← HS.out] at hst
          have hst31 : st < 2147483648 := Nat.lt_of_lt_of_le hst (show 2 ^ j ≤ 2 ^ 31 from Nat.pow_le_pow_right (by decide) (by omega))
          have HN : Hold (2 * st + (1 - y).toNat = tailS l (8 * bs.length + 32 - (j + 1)) (j + 1)) := ⟨by
            rw [HS.out, tailS, show 8 * bs.length + 32 - (j + 1) = q by omega, hy, show q + 1 = 8 * bs.length + 32 - j by omega]⟩
          rw [hy] at hc hy01
          have hqe : 8 * (bs.length : Int) + 31 - (j : Int) = (q : Int) := by omega
          have hq2 : (q : Int) < 8 * (bs.length : Int) + 32 := by omega
          have hq2n : q < 8 * bs.length + 32 := by omega
          have hge : 8 * (bs.length : Int) ≤ (q : Int) := by omega
          have hb0 : 0 ≤ y := by omega
          have hb1 : y ≤ 1 := by omega
          have HQ := Hold.mk hqe
          rw [hqe]
          clear hq hy hy01 hst hqe
          go_wp2
          refine ⟨⟨j + 1, 2 * st + (1 - y).toNat, by omega, ?_, ?_, HN⟩, ?_⟩
          · have := HQ.out; congr 1; omega
          · congr 1; omega
          · simp [intOf]; omega
        · obtain rfl : j = 32 := by omega
          go_wp2
          go_ret
          refine ⟨?_, ⟨HOr.out.bel⟩⟩
          rw [HS.out, ← HT.out]; rfl
end Go.Proofs.Ytgeeicpjphdolaa.Frame
