/- Commands, and values, as bytes: PutCmds and PutValue, of package octet and of the document, by their walks. -/
import Derived.Test.YtebhclgnpnlekaaPutRef
namespace Go.Proofs.Ytebhclgnpnlekaa.Oct
open Go.RowKit Go.Proofs.Ytebhclgnpnlekaa.B Go.Proofs.Ytebhclgnpnlekaa.Cmd
open Go.Proofs.Ytebhclgnpnlekaa.Preds (okSet)

theorem info_i64 : (Try.prog.info? 3).map (fun i => (i.zero, i.size, i.bytes)) = some (some (.int .i64 0), 1, 8) := by kernel_rfl
/-- Commands' numbers. -/
def cmdNums (l : List CmdD) : List Int := l.flatMap nums
def cmdsNums (l : List CmdD) : List Int := (l.length : Int) :: cmdNums l
theorem cmdNums_len (l : List CmdD) : (cmdNums l).length = 7 * l.length := by
  induction l with
  | nil => rfl
  | cons a l ih => simp only [cmdNums, List.flatMap_cons, List.length_append] at ih ⊢; rw [ih]; simp [nums]; omega
theorem few_num {n m : Int} (h : few n m = true) (hm : m ≤ 1048576) : numOk n = true := by
  have := of_decide_eq_true h
  exact decide_eq_true ⟨this.1, by omega⟩
theorem named_num {n : Int} (h : named n = true) : numOk n = true := by
  have := of_decide_eq_true h
  exact decide_eq_true ⟨by omega, by omega⟩
theorem okCmd_nums {c : CmdD} (h : okCmd c = true) : numsOk (nums c) = true := by
  unfold okCmd at h
  simp only [Bool.and_eq_true] at h
  obtain ⟨⟨⟨⟨⟨⟨⟨h1, h2⟩, h3⟩, h4⟩, h5⟩, h6⟩, h7⟩, h8⟩ := h
  have ht : numOk c.tgt = true := by
    rw [Bool.or_eq_true] at h7
    rcases h7 with h7 | h7
    · have k0 := of_decide_eq_true h7
      unfold bareOk at h8
      rw [if_pos k0] at h8
      rw [of_decide_eq_true h8]; rfl
    · exact named_num h7
  simp only [numsOk, nums, List.all_cons, List.all_nil, Bool.and_eq_true]
  exact ⟨named_num h1, few_num h3 (by decide), few_num h2 (by decide), ht, few_num h4 (by decide), few_num h5 (by decide), few_num h6 (by decide), trivial⟩
theorem cmdNums_ok {l : List CmdD} (h : okCmds l = true) : numsOk (cmdNums l) = true := by
  induction l with
  | nil => rfl
  | cons a l ih =>
    simp only [okCmds, List.all_cons, Bool.and_eq_true] at h
    simp only [numsOk, cmdNums, List.flatMap_cons, List.all_append, Bool.and_eq_true]
    exact ⟨okCmd_nums h.1, ih h.2⟩
theorem cmdsNums_ok {l : List CmdD} (h : okCmds l = true) (hl : l.length ≤ 1024) : numsOk (cmdsNums l) = true := by
  simp only [numsOk, cmdsNums, List.all_cons, Bool.and_eq_true]
  exact ⟨decide_eq_true ⟨by omega, by omega⟩, cmdNums_ok h⟩
theorem wf_len {n : Nat} (h : n ≤ 1024) : (Lit.int .i64 (n : Int)).wf = true := by
  have e1 : IntKind.i64.min = -9223372036854775808 := by decide
  have e2 : IntKind.i64.max = 9223372036854775807 := by decide
  simp [Lit.wf, e1, e2]
  omega
/-- Commands' bytes, if they may be. -/
def cmdsOk (l : List CmdD) : Bool := okCmds l && decide (l.length ≤ 1024)
def cmdsBytes (l : List CmdD) : List Int := encs (cmdsNums l)
/-- Bytes, or the error. -/
def BytesSaid (ok : Bool) (bs : List Int) (w : World) (e : Ending) (w' : World) : Prop := if ok = true then ∃ A1 c1, e = .returned (.tuple #[.slice A1 bs.length c1, .int .i64 0]) ∧ Hold (Rep.Own (Rep.int .u8) 5 w.heap.size nob w' (.slice A1 bs.length c1) bs) ∧ Hold (Below w.heap.size w w')
  else e = .returned (.tuple #[.slice none 0 0, .int .i64 1]) ∧ Hold (Below w.heap.size w w')

set_option maxHeartbeats 4000000 in
theorem putCmds_calls (A : Option Addr) (c n : Nat) (l : List CmdD) (I : Nat → Prop) (w : World) (hn : n = l.length) (h : Rep.Row cmdRep I w A l) :
    Calls Try.prog 16 #[.slice A n c] w (BytesSaid (cmdsOk l) (cmdsBytes l) w) := by
  subst hn
  have H := Hold.mk h
  have hm := h.len_le
  clear h
  by_cases hl : l.length ≤ 1024
  · have t1 : decide ((1024 : Int) < (l.length : Int)) = false := decide_eq_false (by omega)
    cases hok : okCmds l
    · have HOk := Hold.mk hok
      have HNo : Hold (cmdsOk l = false) := ⟨by unfold cmdsOk; rw [hok]; rfl⟩
      clear hok
      go_enter Try.func16, Try.ntmps16
      go_wp2_with fail
      refine (Cmd.right_calls A c _ l I w rfl H.out false HOk.out).mono ?_
      rintro e w1 ⟨rfl, HB1⟩
      go_wp2
      go_ret2
      rw [BytesSaid, HNo.out, if_neg (by decide)]
      exact ⟨rfl, HB1⟩
    · have HOk := Hold.mk hok
      have HYes : Hold (cmdsOk l = true) := ⟨by unfold cmdsOk; rw [hok, decide_eq_true hl]; rfl⟩
      have HNs := Hold.mk (cmdsNums_ok hok hl)
      clear hok
      go_enter Try.func16, Try.ntmps16
      go_wp2_with fail
      refine (Cmd.right_calls A c _ l I w rfl H.out true HOk.out).mono ?_
      rintro e w1 ⟨rfl, HB1⟩
      have HO1 : Hold (Rep.Own (Rep.int .i64) 3 w.heap.size nob (w1.alloc (.cells #[.int .i64 (l.length : Int)] 3)) (.slice (some ⟨w1.heap.size, 0, none⟩) 1 1) ((l.length : Int) :: cmdNums (l.take 0))) := ⟨Rep.own_lit _ _ _ _ [(l.length : Int)] HB1.out.size (by simp [maxLen]) (by simp [wf_len hl])⟩
      have HB2 : Hold (Below w.heap.size w (w1.alloc (.cells #[.int .i64 (l.length : Int)] 3))) := ⟨HB1.out.alloc HB1.out.size _⟩
      go_wp2
      go_loopw [4, 20] (fun x s wr => ∃ i : Nat, i ≤ l.length ∧ s = .int .i64 (i : Int) ∧ Hold (Rep.Own (Rep.int .i64) 3 w.heap.size nob wr x ((l.length : Int) :: cmdNums (l.take i))) ∧ Hold (Below w.heap.size w wr)) (fun _ s _ => l.length - (intOf s).toNat)
      case atStart => exact ⟨0, by omega, rfl, HO1, HB2⟩
      case round =>
        obtain ⟨i, hi, rfl, HO, HB⟩ := hrel
        by_cases hlt : i < l.length
        · have l1 : (i : Int) < (l.length : Int) := by omega
          obtain ⟨ad, p, rfl, hp, _, ⟨c0, c1, c2, c3, c4, c5, c6, hw⟩⟩ := row_cmd (H.out.below HB.out) i hlt
          obtain ⟨x, hx⟩ : ∃ x, l[i] = x := ⟨_, rfl⟩
          rw [hx] at c0 c1 c2 c3 c4 c5 c6 hw
          obtain ⟨W0, hW0⟩ : ∃ W, (wr.alloc (.cells #[.int .i64 x.id, .int .i64 x.kind, .int .i64 x.sym, .int .i64 x.tgt, .int .i64 x.side, .int .i64 x.price, .int .i64 x.qty] 45)).alloc (.cells #[.int .i64 x.id, .int .i64 x.kind, .int .i64 x.sym, .int .i64 x.tgt, .int .i64 x.side, .int .i64 x.price, .int .i64 x.qty] 3) = W := ⟨_, rfl⟩
          have HBw : Hold (Below wr.heap.size wr W0) := ⟨by rw [← hW0]; exact ((Below.refl _ _).alloc (Nat.le_refl _) _).alloc (by simp) _⟩
          have HOx : Hold (Rep.Own (Rep.int .i64) 3 w.heap.size nob W0 (.slice (some ⟨wr.heap.size + 1, 0, none⟩) 7 7) (nums x)) := ⟨by
            have := Rep.own_lit (k := .i64) 3 w.heap.size nob (wr.alloc (.cells #[.int .i64 x.id, .int .i64 x.kind, .int .i64 x.sym, .int .i64 x.tgt, .int .i64 x.side, .int .i64 x.price, .int .i64 x.qty] 45)) (nums x) (Nat.le_trans HB.out.size (by simp)) (by simp [nums, maxLen]) (nums_wf hw)
            rw [show (wr.alloc (.cells #[.int .i64 x.id, .int .i64 x.kind, .int .i64 x.sym, .int .i64 x.tgt, .int .i64 x.side, .int .i64 x.price, .int .i64 x.qty] 45)).heap.size = wr.heap.size + 1 by simp] at this
            rw [← hW0]; exact this⟩
          obtain ⟨P, hP⟩ : ∃ P, (l.length : Int) :: cmdNums (l.take i) = P := ⟨_, rfl⟩
          obtain ⟨Q, hQ⟩ : ∃ P, (l.length : Int) :: cmdNums (l.take (i + 1)) = P := ⟨_, rfl⟩
          have HE : Hold (P ++ nums x = Q) := ⟨by rw [← hP, ← hQ, List.take_succ_eq_append_getElem hlt, hx]; simp [cmdNums]⟩
          have HPl : Hold (P.length ≤ 7200) := ⟨by rw [← hP, List.length_cons, cmdNums_len, List.length_take]; omega⟩
          rw [hP] at HO
          have HQ := Hold.mk hQ
          clear hP hQ hx hw
          go_wp2_with (at_builtin; refine Rep.wp_more (Rep.int .i64) rfl (.tmp 24) (.tmp 39) 22 3 (.int .i64 0) 8 rfl Try.underlying22 info_i64 rfl (by decide) (by decide) w.heap.size nob nob u4 P (nums x) Q _ 7 7 rfl rfl rfl HE.out (HO.out.below HBw.out) (HOx.out.flatV _ (Rep.flat_int _)) (fun _ h _ => h.elim) (fun h => by cases h) ?d1 ?d2 ?_)
          case d1 => exact Nat.le_trans HB.out.size HBw.out.size
          case d2 => have := HPl.out; simp [nums]; omega
          intro A3 c3 w3 HG3
          have HO3 : Hold (Rep.Own (Rep.int .i64) 3 w.heap.size nob w3 (.slice A3 Q.length c3) ((l.length : Int) :: cmdNums (l.take (i + 1)))) := ⟨by rw [HQ.out]; exact HG3.out.own⟩
          have HB3 : Hold (Below w.heap.size w w3) := ⟨HB.out.trans ((HBw.out.mono HB.out.size).trans (HG3.out.below (fun k hk => (HO.out.block_lt k hk).1) (Nat.le_trans HB.out.size HBw.out.size)))⟩
          go_wp2
          exact ⟨⟨i + 1, by omega, by go_num, HO3, HB3⟩, by simp [intOf]; omega⟩
        · obtain rfl : i = l.length := by omega
          have hown := HO.out
          rw [List.take_length] at hown
          have HO2 : Hold (Rep.Own (Rep.int .i64) 3 w.heap.size nob wr u4 (cmdsNums l)) := ⟨hown⟩
          obtain ⟨A4, c4, rfl, _⟩ := HO2.out.form
          have HLn : Hold ((cmdsNums l).length ≤ 7200) := ⟨by unfold cmdsNums; rw [List.length_cons, cmdNums_len]; omega⟩
          clear hown
          go_wp2_with fail
          refine (put_calls A4 c4 _ (cmdsNums l) _ wr rfl HO2.out.row (by have := HLn.out; omega)).mono ?_
          rintro e w2 hs
          rw [PutSaid, HNs.out, if_pos rfl] at hs
          obtain ⟨A5, c5, rfl, HO5, HB5⟩ := hs
          go_wp2
          go_ret2
          rw [BytesSaid, HYes.out, if_pos rfl]
          exact ⟨A5, c5, rfl, ⟨HO5.out.lower HB.out.size⟩, ⟨HB.out.trans (HB5.out.mono HB.out.size)⟩⟩
  · have t1 : decide ((1024 : Int) < (l.length : Int)) = true := decide_eq_true (by omega)
    have HNo : Hold (cmdsOk l = false) := ⟨by unfold cmdsOk; rw [decide_eq_false hl]; simp⟩
    clear hl
    go_enter Try.func16, Try.ntmps16
    go_wp2
    go_ret2
    rw [BytesSaid, HNo.out, if_neg (by decide)]
    exact ⟨rfl, ⟨Below.refl _ _⟩⟩

set_option maxHeartbeats 4000000 in
theorem refPutCmds_calls (A : Option Addr) (c n : Nat) (l : List CmdD) (I : Nat → Prop) (w : World) (hn : n = l.length) (h : Rep.Row cmdRep I w A l) :
    Calls Try.prog 17 #[.slice A n c] w (BytesSaid (cmdsOk l) (cmdsBytes l) w) := by
  subst hn
  have H := Hold.mk h
  have hm := h.len_le
  clear h
  cases hok : okCmds l
  · have HOk := Hold.mk hok
    have HNo : Hold (cmdsOk l = false) := ⟨by unfold cmdsOk; rw [hok]; rfl⟩
    clear hok
    go_enter Try.func17, Try.ntmps17
    go_wp2_with fail
    refine (Cmd.refRight_calls A c _ l I w rfl H.out false HOk.out).mono ?_
    rintro e w1 ⟨rfl, HB1⟩
    go_wp2
    go_ret2
    rw [BytesSaid, HNo.out, if_neg (by decide)]
    exact ⟨rfl, HB1⟩
  · have HOk := Hold.mk hok
    by_cases hl : l.length ≤ 1024
    · have t1 : decide ((1024 : Int) < (l.length : Int)) = false := decide_eq_false (by omega)
      have HYes : Hold (cmdsOk l = true) := ⟨by unfold cmdsOk; rw [hok, decide_eq_true hl]; rfl⟩
      have HNs := Hold.mk (cmdsNums_ok hok hl)
      clear hok
      go_enter Try.func17, Try.ntmps17
      go_wp2_with fail
      refine (Cmd.refRight_calls A c _ l I w rfl H.out true HOk.out).mono ?_
      rintro e w1 ⟨rfl, HB1⟩
      have HO1 : Hold (Rep.Own (Rep.int .i64) 3 w.heap.size nob (w1.alloc (.cells #[.int .i64 (l.length : Int)] 3)) (.slice (some ⟨w1.heap.size, 0, none⟩) 1 1) ((l.length : Int) :: cmdNums (l.take 0))) := ⟨Rep.own_lit _ _ _ _ [(l.length : Int)] HB1.out.size (by simp [maxLen]) (by simp [wf_len hl])⟩
      have HB2 : Hold (Below w.heap.size w (w1.alloc (.cells #[.int .i64 (l.length : Int)] 3))) := ⟨HB1.out.alloc HB1.out.size _⟩
      go_wp2
      go_loopw [5, 6] (fun x s wr => ∃ i : Nat, i ≤ l.length ∧ s = .int .i64 (i : Int) ∧ Hold (Rep.Own (Rep.int .i64) 3 w.heap.size nob wr x ((l.length : Int) :: cmdNums (l.take i))) ∧ Hold (Below w.heap.size w wr)) (fun _ s _ => l.length - (intOf s).toNat)
      case atStart => exact ⟨0, by omega, rfl, HO1, HB2⟩
      case round =>
        obtain ⟨i, hi, rfl, HO, HB⟩ := hrel
        by_cases hlt : i < l.length
        · have l1 : (i : Int) < (l.length : Int) := by omega
          obtain ⟨ad, p, rfl, hp, _, ⟨c0, c1, c2, c3, c4, c5, c6, hw⟩⟩ := row_cmd (H.out.below HB.out) i hlt
          obtain ⟨x, hx⟩ : ∃ x, l[i] = x := ⟨_, rfl⟩
          rw [hx] at c0 c1 c2 c3 c4 c5 c6 hw
          obtain ⟨P, hP⟩ : ∃ P, (l.length : Int) :: cmdNums (l.take i) = P := ⟨_, rfl⟩
          obtain ⟨Q, hQ⟩ : ∃ P, (l.length : Int) :: cmdNums (l.take (i + 1)) = P := ⟨_, rfl⟩
          have HE : Hold (P ++ nums x = Q) := ⟨by rw [← hP, ← hQ, List.take_succ_eq_append_getElem hlt, hx]; simp [cmdNums]⟩
          have HPl : Hold (P.length ≤ 7200) := ⟨by rw [← hP, List.length_cons, cmdNums_len, List.length_take]; omega⟩
          rw [hP] at HO
          have HQ := Hold.mk hQ
          have HW := Hold.mk hw
          clear hP hQ hx hw
          go_wp2_with fail
          refine (nums_calls x wr HW.out).mono ?_
          rintro e w2 ⟨A2, rfl, HO2, HB2⟩
          have HN2 : Hold (A2 = none → (7 : Nat) = 0) := ⟨HO2.out.cap_nil _ _ _ rfl⟩
          go_wp2_with (at_builtin; refine Rep.wp_more (Rep.int .i64) rfl (.tmp 25) (.tmp 30) 22 3 (.int .i64 0) 8 rfl Try.underlying22 info_i64 rfl (by decide) (by decide) w.heap.size nob nob u5 P (nums x) Q A2 7 7 rfl rfl rfl HE.out (HO.out.below HB2.out) (HO2.out.flatV _ (Rep.flat_int _)) (fun _ h _ => h.elim) HN2.out ?d1 ?d2 ?_)
          case d1 => exact Nat.le_trans HB.out.size HB2.out.size
          case d2 => have := HPl.out; simp [nums]; omega
          intro A3 c3 w3 HG3
          have HO3 : Hold (Rep.Own (Rep.int .i64) 3 w.heap.size nob w3 (.slice A3 Q.length c3) ((l.length : Int) :: cmdNums (l.take (i + 1)))) := ⟨by rw [HQ.out]; exact HG3.out.own⟩
          have HB3 : Hold (Below w.heap.size w w3) := ⟨HB.out.trans ((HB2.out.mono HB.out.size).trans (HG3.out.below (fun k hk => (HO.out.block_lt k hk).1) (Nat.le_trans HB.out.size HB2.out.size)))⟩
          go_wp2
          exact ⟨⟨i + 1, by omega, by go_num, HO3, HB3⟩, by simp [intOf]; omega⟩
        · obtain rfl : i = l.length := by omega
          have hown := HO.out
          rw [List.take_length] at hown
          have HO2 : Hold (Rep.Own (Rep.int .i64) 3 w.heap.size nob wr u5 (cmdsNums l)) := ⟨hown⟩
          obtain ⟨A4, c4, rfl, _⟩ := HO2.out.form
          have HLn : Hold ((cmdsNums l).length ≤ 7200) := ⟨by unfold cmdsNums; rw [List.length_cons, cmdNums_len]; omega⟩
          clear hown
          go_wp2_with fail
          refine (refPut_calls A4 c4 _ (cmdsNums l) _ wr rfl HO2.out.row (by have := HLn.out; omega)).mono ?_
          rintro e w2 hs
          rw [PutSaid, HNs.out, if_pos rfl] at hs
          obtain ⟨A5, c5, rfl, HO5, HB5⟩ := hs
          go_wp2
          go_ret2
          rw [BytesSaid, HYes.out, if_pos rfl]
          exact ⟨A5, c5, rfl, ⟨HO5.out.lower HB.out.size⟩, ⟨HB.out.trans (HB5.out.mono HB.out.size)⟩⟩
    · have t1 : decide ((1024 : Int) < (l.length : Int)) = true := decide_eq_true (by omega)
      have HNo : Hold (cmdsOk l = false) := ⟨by unfold cmdsOk; rw [decide_eq_false hl]; simp⟩
      clear hl hok
      go_enter Try.func17, Try.ntmps17
      go_wp2_with fail
      refine (Cmd.refRight_calls A c _ l I w rfl H.out true HOk.out).mono ?_
      rintro e w1 ⟨rfl, HB1⟩
      go_wp2
      go_ret2
      rw [BytesSaid, HNo.out, if_neg (by decide)]
      exact ⟨rfl, HB1⟩

/-- A value's bytes, if it may be. -/
def valueOk (t : Int) (p : List CmdD) : Bool := okSet p && numOk t
def valueBytes (t : Int) (p : List CmdD) : List Int := enc t.toNat ++ cmdsBytes p
theorem set_cmds {p : List CmdD} (h : okSet p = true) : cmdsOk p = true := by
  unfold okSet at h
  unfold cmdsOk
  simp only [Bool.and_eq_true] at h ⊢
  exact ⟨h.1.2, h.2⟩
theorem cmdsBytes_len {p : List CmdD} (h : cmdsOk p = true) : (cmdsBytes p).length ≤ 50000 := by
  unfold cmdsOk at h
  rw [Bool.and_eq_true] at h
  have hl := of_decide_eq_true h.2
  have := encs_le (cmdsNums_ok h.1 hl)
  unfold cmdsBytes
  rw [cmdsNums, List.length_cons, cmdNums_len] at this
  rw [cmdsNums]
  omega
theorem encs_one {n : Int} : encs [n] = enc n.toNat := by simp [encs]
theorem numsOk_one {n : Int} {b : Bool} (h : numOk n = b) : numsOk [n] = b := by simp [numsOk, h]

set_option maxHeartbeats 4000000 in
theorem putValue_calls (A : Option Addr) (c n : Nat) (t : Int) (p : List CmdD) (I : Nat → Prop) (w : World) (hn : n = p.length) (h : Rep.Row cmdRep I w A p) (ht : (Lit.int .i64 t).wf = true) :
    Calls Try.prog 18 #[.agg #[.int .i64 t, .slice A n c]] w (BytesSaid (valueOk t p) (valueBytes t p) w) := by
  subst hn
  obtain ⟨w0, hw0⟩ : ∃ W, w.alloc (.cells #[.int .i64 t, .slice A p.length c] 34) = W := ⟨_, rfl⟩
  have hb0 : Below w.heap.size w w0 := by rw [← hw0]; exact (Below.refl _ _).alloc (Nat.le_refl _) _
  have hblk : w0.heap[w.heap.size]? = some (.cells #[.int .i64 t, .slice A p.length c] 34 (0, 0)) := by rw [← hw0]; show (w.heap.push _)[w.heap.size]? = _; simp
  have hlt0 : w.heap.size < w0.heap.size := by rw [← hw0]; simp
  have H := Hold.mk (h.below hb0)
  have HT := Hold.mk ht
  have HB0 := Hold.mk hb0
  have HBlk : Hold (∀ w1, Below w0.heap.size w0 w1 → w1.heap[w.heap.size]? = some (.cells #[.int .i64 t, .slice A p.length c] 34 (0, 0))) := ⟨fun w1 hb => (hb.block _ hlt0).trans hblk⟩
  have a0 : w0.cell? ⟨w.heap.size, 0, none⟩ = some (.int .i64 t) := by simp [World.cell?, hblk]
  have a1 : w0.cell? ⟨w.heap.size, 1, none⟩ = some (.slice A p.length c) := by simp [World.cell?, hblk]
  clear h ht hb0 hblk hlt0
  cases hset : okSet p
  · have HS := Hold.mk hset
    have HNo : Hold (valueOk t p = false) := ⟨by unfold valueOk; rw [hset]; rfl⟩
    clear hset
    go_enter Try.func18, Try.ntmps18
    go_wp2_with fail
    refine (Preds.right_calls A c _ p _ _ rfl H.out false HS.out).mono ?_
    rintro e w1 ⟨rfl, HB1⟩
    go_wp2
    go_ret2
    rw [BytesSaid, HNo.out, if_neg (by decide)]
    exact ⟨rfl, ⟨HB0.out.trans (HB1.out.mono HB0.out.size)⟩⟩
  · have HS := Hold.mk hset
    go_enter Try.func18, Try.ntmps18
    clear hset
    go_wp2_with fail
    refine (Preds.right_calls A c _ p _ _ rfl H.out true HS.out).mono ?_
    rintro e w1 ⟨rfl, HB1⟩
    have b0 : w1.cell? ⟨w.heap.size, 0, none⟩ = some (.int .i64 t) := by simp [World.cell?, HBlk.out w1 HB1.out]
    have HBw1 : Hold (Below w.heap.size w w1) := ⟨HB0.out.trans (HB1.out.mono HB0.out.size)⟩
    have HR2 : Hold (Rep.Row (Rep.int .i64) (fun k => k = w1.heap.size) (w1.alloc (.cells #[.int .i64 t] 3)) (some ⟨w1.heap.size, 0, none⟩) [t]) := ⟨Rep.row_lit _ _ (0, 0) [t] (by simp [maxLen]) (by simpa using HT.out)⟩
    cases hnum : numOk t
    · have HNs := Hold.mk (numsOk_one hnum)
      have HNo : Hold (valueOk t p = false) := ⟨by unfold valueOk; rw [hnum]; simp⟩
      clear hnum
      go_wp2_with fail
      refine (put_calls _ 1 1 [t] _ _ rfl HR2.out (by simp)).mono ?_
      rintro e w2 hs
      rw [PutSaid, HNs.out, if_neg (by decide)] at hs
      obtain ⟨rfl, HB2⟩ := hs
      go_wp2
      go_ret2
      rw [BytesSaid, HNo.out, if_neg (by decide)]
      exact ⟨rfl, ⟨(HBw1.out.alloc HBw1.out.size _).trans (HB2.out.mono (by have := HBw1.out.size; simp; omega))⟩⟩
    · have HNs := Hold.mk (numsOk_one hnum)
      have HYes : Hold (valueOk t p = true) := ⟨by unfold valueOk; rw [HS.out, hnum]; rfl⟩
      have HEl := Hold.mk (enc_le hnum)
      clear hnum
      go_wp2_with fail
      refine (put_calls _ 1 1 [t] _ _ rfl HR2.out (by simp)).mono ?_
      rintro e w2 hs
      rw [PutSaid, HNs.out, if_pos rfl, encs_one] at hs
      obtain ⟨A2, c2, rfl, HO2, HB2⟩ := hs
      have hb2 : Below w1.heap.size w1 w2 := ((Below.refl _ _).alloc (Nat.le_refl _) _).trans (HB2.out.mono (by simp))
      have HBw2 : Hold (Below w.heap.size w w2) := ⟨HBw1.out.trans (hb2.mono HBw1.out.size)⟩
      have hb02 : Below w0.heap.size w0 w2 := HB1.out.trans (hb2.mono HB1.out.size)
      have d1 : w2.cell? ⟨w.heap.size, 1, none⟩ = some (.slice A p.length c) := by simp [World.cell?, HBlk.out w2 hb02]
      have H2 := Hold.mk (H.out.below hb02)
      have HCm := Hold.mk (set_cmds HS.out)
      clear hb2 hb02 b0
      go_wp2_with fail
      refine (putCmds_calls A c _ p _ _ rfl H2.out).mono ?_
      rintro e w3 hs
      rw [BytesSaid, HCm.out, if_pos rfl] at hs
      obtain ⟨A3, c3, rfl, HO3, HB3⟩ := hs
      have HN3 : Hold (A3 = none → c3 = 0) := ⟨HO3.out.cap_nil _ _ _ rfl⟩
      obtain ⟨Q, hQ⟩ : ∃ Q, valueBytes t p = Q := ⟨_, rfl⟩
      have HQ : Hold (enc t.toNat ++ cmdsBytes p = Q) := ⟨hQ⟩
      rw [hQ]
      have HLc := Hold.mk (cmdsBytes_len HCm.out)
      clear hQ
      have hs1 : w.heap.size ≤ (w1.alloc (.cells #[.int .i64 t] 3)).heap.size := by have := HBw1.out.size; simp; omega
      have HO2' := Hold.mk ((HO2.out.lower hs1).below HB3.out)
      clear hs1
      go_wp2_with (at_builtin; refine Rep.wp_more (Rep.int .u8) rfl (.tmp 27) (.tmp 28) 25 5 (.int .u8 0) 1 rfl Try.underlying25 info_u8 rfl (by decide) (by decide) w.heap.size nob nob (.slice A2 (enc t.toNat).length c2) (enc t.toNat) (cmdsBytes p) Q A3 (cmdsBytes p).length c3 rfl rfl rfl HQ.out HO2'.out (HO3.out.flatV _ (Rep.flat_int _)) (fun _ h _ => h.elim) HN3.out ?e1 ?e2 ?_)
      case e1 => exact Nat.le_trans HBw2.out.size HB3.out.size
      case e2 => have := HEl.out; have := HLc.out; omega
      intro A4 c4 w4 HG4
      have HB4 : Hold (Below w.heap.size w w4) := ⟨HBw2.out.trans ((HB3.out.mono HBw2.out.size).trans (HG4.out.below (fun k hk => (HO2'.out.block_lt k hk).1) (Nat.le_trans HBw2.out.size HB3.out.size)))⟩
      go_wp2
      go_ret2
      rw [BytesSaid, HYes.out, if_pos rfl, show valueBytes t p = Q from HQ.out]
      exact ⟨A4, c4, rfl, ⟨HG4.out.own⟩, HB4⟩
set_option maxHeartbeats 4000000 in
theorem refPutValue_calls (A : Option Addr) (c n : Nat) (t : Int) (p : List CmdD) (I : Nat → Prop) (w : World) (hn : n = p.length) (h : Rep.Row cmdRep I w A p) (ht : (Lit.int .i64 t).wf = true) :
    Calls Try.prog 19 #[.agg #[.int .i64 t, .slice A n c]] w (BytesSaid (valueOk t p) (valueBytes t p) w) := by
  subst hn
  obtain ⟨w0, hw0⟩ : ∃ W, w.alloc (.cells #[.int .i64 t, .slice A p.length c] 34) = W := ⟨_, rfl⟩
  have hb0 : Below w.heap.size w w0 := by rw [← hw0]; exact (Below.refl _ _).alloc (Nat.le_refl _) _
  have hblk : w0.heap[w.heap.size]? = some (.cells #[.int .i64 t, .slice A p.length c] 34 (0, 0)) := by rw [← hw0]; show (w.heap.push _)[w.heap.size]? = _; simp
  have hlt0 : w.heap.size < w0.heap.size := by rw [← hw0]; simp
  have H := Hold.mk (h.below hb0)
  have HT := Hold.mk ht
  have HB0 := Hold.mk hb0
  have HBlk : Hold (∀ w1, Below w0.heap.size w0 w1 → w1.heap[w.heap.size]? = some (.cells #[.int .i64 t, .slice A p.length c] 34 (0, 0))) := ⟨fun w1 hb => (hb.block _ hlt0).trans hblk⟩
  have a0 : w0.cell? ⟨w.heap.size, 0, none⟩ = some (.int .i64 t) := by simp [World.cell?, hblk]
  have a1 : w0.cell? ⟨w.heap.size, 1, none⟩ = some (.slice A p.length c) := by simp [World.cell?, hblk]
  clear h ht hb0 hblk hlt0
  obtain ⟨bs, hbs⟩ : ∃ b, okSet p = b := ⟨_, rfl⟩
  obtain ⟨bn, hbn⟩ : ∃ b, numOk t = b := ⟨_, rfl⟩
  have HS := Hold.mk hbs
  have HNm := Hold.mk hbn
  clear hbs hbn
  go_enter Try.func19, Try.ntmps19
  go_wp2_with fail
  refine (Preds.refRight_calls A c _ p _ _ rfl H.out bs HS.out).mono ?_
  rintro e w1 ⟨rfl, HB1⟩
  have b0 : w1.cell? ⟨w.heap.size, 0, none⟩ = some (.int .i64 t) := by simp [World.cell?, HBlk.out w1 HB1.out]
  have HBw1 : Hold (Below w.heap.size w w1) := ⟨HB0.out.trans (HB1.out.mono HB0.out.size)⟩
  have HR2 : Hold (Rep.Row (Rep.int .i64) (fun k => k = w1.heap.size) (w1.alloc (.cells #[.int .i64 t] 3)) (some ⟨w1.heap.size, 0, none⟩) [t]) := ⟨Rep.row_lit _ _ (0, 0) [t] (by simp [maxLen]) (by simpa using HT.out)⟩
  go_wp2_with fail
  refine (refIn_calls t _ bn HNm.out).mono ?_
  rintro e w1' ⟨rfl, rfl⟩
  cases bs
  · have HNo : Hold (valueOk t p = false) := ⟨by unfold valueOk; rw [HS.out]; rfl⟩
    go_wp2
    go_ret2
    rw [BytesSaid, HNo.out, if_neg (by decide)]
    exact ⟨rfl, HBw1⟩
  cases bn
  · have HNo : Hold (valueOk t p = false) := ⟨by unfold valueOk; rw [HNm.out]; simp⟩
    go_wp2
    go_ret2
    rw [BytesSaid, HNo.out, if_neg (by decide)]
    exact ⟨rfl, HBw1⟩
  have HNs := Hold.mk (numsOk_one HNm.out)
  have HYes : Hold (valueOk t p = true) := ⟨by unfold valueOk; rw [HS.out, HNm.out]; rfl⟩
  have HEl := Hold.mk (enc_le HNm.out)
  go_wp2_with fail
  refine (refPut_calls _ 1 1 [t] _ _ rfl HR2.out (by simp)).mono ?_
  rintro e w2 hs
  rw [PutSaid, HNs.out, if_pos rfl, encs_one] at hs
  obtain ⟨A2, c2, rfl, HO2, HB2⟩ := hs
  have hb2 : Below w1.heap.size w1 w2 := ((Below.refl _ _).alloc (Nat.le_refl _) _).trans (HB2.out.mono (by simp))
  have HBw2 : Hold (Below w.heap.size w w2) := ⟨HBw1.out.trans (hb2.mono HBw1.out.size)⟩
  have hb02 : Below w0.heap.size w0 w2 := HB1.out.trans (hb2.mono HB1.out.size)
  have d1 : w2.cell? ⟨w.heap.size, 1, none⟩ = some (.slice A p.length c) := by simp [World.cell?, HBlk.out w2 hb02]
  have H2 := Hold.mk (H.out.below hb02)
  have HCm := Hold.mk (set_cmds HS.out)
  clear hb2 hb02 b0
  go_wp2_with fail
  refine (refPutCmds_calls A c _ p _ _ rfl H2.out).mono ?_
  rintro e w3 hs
  rw [BytesSaid, HCm.out, if_pos rfl] at hs
  obtain ⟨A3, c3, rfl, HO3, HB3⟩ := hs
  have HN3 : Hold (A3 = none → c3 = 0) := ⟨HO3.out.cap_nil _ _ _ rfl⟩
  obtain ⟨Q, hQ⟩ : ∃ Q, valueBytes t p = Q := ⟨_, rfl⟩
  have HQ : Hold (enc t.toNat ++ cmdsBytes p = Q) := ⟨hQ⟩
  rw [hQ]
  have HLc := Hold.mk (cmdsBytes_len HCm.out)
  clear hQ
  have hs1 : w.heap.size ≤ (w1.alloc (.cells #[.int .i64 t] 3)).heap.size := by have := HBw1.out.size; simp; omega
  have HO2' := Hold.mk ((HO2.out.lower hs1).below HB3.out)
  clear hs1
  go_wp2_with (at_builtin; refine Rep.wp_more (Rep.int .u8) rfl (.tmp 35) (.tmp 36) 25 5 (.int .u8 0) 1 rfl Try.underlying25 info_u8 rfl (by decide) (by decide) w.heap.size nob nob (.slice A2 (enc t.toNat).length c2) (enc t.toNat) (cmdsBytes p) Q A3 (cmdsBytes p).length c3 rfl rfl rfl HQ.out HO2'.out (HO3.out.flatV _ (Rep.flat_int _)) (fun _ h _ => h.elim) HN3.out ?e1 ?e2 ?_)
  case e1 => exact Nat.le_trans HBw2.out.size HB3.out.size
  case e2 => have := HEl.out; have := HLc.out; omega
  intro A4 c4 w4 HG4
  have HB4 : Hold (Below w.heap.size w w4) := ⟨HBw2.out.trans ((HB3.out.mono HBw2.out.size).trans (HG4.out.below (fun k hk => (HO2'.out.block_lt k hk).1) (Nat.le_trans HBw2.out.size HB3.out.size)))⟩
  go_wp2
  go_ret2
  rw [BytesSaid, HYes.out, if_pos rfl, show valueBytes t p = Q from HQ.out]
  exact ⟨A4, c4, rfl, ⟨HG4.out.own⟩, HB4⟩
end Go.Proofs.Ytebhclgnpnlekaa.Oct
