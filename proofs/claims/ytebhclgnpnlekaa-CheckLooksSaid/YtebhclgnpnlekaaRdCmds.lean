/- Commands that come: package octet's Reader.Cmds, and the document's, by their walks. -/
import Derived.Test.YtebhclgnpnlekaaRdCmdRef
namespace Go.Proofs.Ytebhclgnpnlekaa.Rd
open Go.RowKit Go.Proofs.Ytebhclgnpnlekaa.B Go.Proofs.Ytebhclgnpnlekaa.Cmd

/-- So many commands, taken. -/
def cmdsK : Nat → RSt → List CmdD × RSt
  | 0, st => ([], st)
  | k + 1, st => ((cmdsK k st).1 ++ [(cmdS (cmdsK k st).2).1], (cmdS (cmdsK k st).2).2)
def cmdsS (st : RSt) : List CmdD × RSt := if 1024 < (numS st).1 then ([], ([], 2)) else if (cmdsK (numS st).1.toNat (numS st).2).2.2 ≠ 0 then ([], (cmdsK (numS st).1.toNat (numS st).2).2) else cmdsK (numS st).1.toNat (numS st).2
theorem cmdsK_len (k : Nat) (st : RSt) : (cmdsK k st).1.length = k := by
  induction k with
  | zero => rfl
  | succ k ih => simp [cmdsK, ih]
theorem numS_err {st : RSt} (h : st.2 ≠ 0) : numS st = (0, st) := by unfold numS; rw [if_pos h]
theorem numsS_err {st : RSt} (h : st.2 ≠ 0) (k : Nat) : (numsS k st).2 = st := by
  induction k with
  | zero => rfl
  | succ k ih => show (numS (numsS k st).2).2 = st; rw [ih, numS_err h]
theorem cmdS_err {st : RSt} (h : st.2 ≠ 0) : cmdS st = (zeroCmd, st) := by unfold cmdS; rw [numsS_err h, if_pos h]
theorem cmdsK_err {st : RSt} {j k : Nat} (hjk : j ≤ k) (h : (cmdsK j st).2.2 ≠ 0) : (cmdsK k st).2 = (cmdsK j st).2 := by
  induction k with
  | zero => rw [show j = 0 by omega]
  | succ k ih =>
    by_cases e : j = k + 1
    · rw [e]
    · have := ih (by omega)
      show (cmdS (cmdsK k st).2).2 = _
      rw [this, cmdS_err h]
theorem numS_ok {st : RSt} (h : (numS st).1 ≠ 0) : (numS st).2.2 = 0 := by
  unfold numS at h ⊢
  split
  · rename_i h2; rw [if_pos h2] at h; exact absurd rfl h
  · rename_i h2
    rw [if_neg h2] at h
    cases hd : dec 0 0 1 st.1 with
    | ok n r => rfl
    | cut => rw [hd] at h; exact absurd rfl h
    | form => rw [hd] at h; exact absurd rfl h
/-- What Cmds leaves. -/
def CmdsSaid (T : TypeId) (g : Nat) (J : Nat → Prop) (st : RSt) (w : World) (e : Ending) (w' : World) : Prop :=
  ∃ A c, e = .returned (.slice A (cmdsS st).1.length c) ∧ Hold (Rep.Own cmdRep 45 w.heap.size nob w' (.slice A (cmdsS st).1.length c) (cmdsS st).1) ∧ Hold (RAt T g J w' (cmdsS st).2) ∧ Hold (Fr (Its g) w w')
theorem RAt.err {T : TypeId} {g : Nat} {J : Nat → Prop} {w : World} {st : RSt} (h : RAt T g J w st) : w.cell? ⟨g, 1, none⟩ = some (.int .i64 st.2) := by
  obtain ⟨A, c, hb, _⟩ := h
  simp [World.cell?, hb]
theorem RAt.frJ {T : TypeId} {g : Nat} {J : Nat → Prop} {w w' : World} {st : RSt} {M : Nat → Prop} (h : RAt T g J w st) (hf : Fr M w w') (hg : ¬ M g) (hm : ∀ k, M k → ¬ J k) : RAt T g J w' st := by
  obtain ⟨A, c, h1, h2, h3, h4⟩ := h
  exact ⟨A, c, (hf.block g (Array.getElem?_eq_some_iff.1 h1).1 hg).trans h1, h2, h3, h4.move fun k hk hlt => ⟨hk, hf.block k hlt (fun hm' => hm k hm' hk.2)⟩⟩
theorem cmds_nil (w : World) : Calls Try.prog 26 #[.pointer none] w fun e w' => e = .returned (.slice none 0 0) ∧ w = w' := by
  go_enter Try.func26, Try.ntmps26
  go_wp2_with (go_at_call 21; refine (num_nil w).mono ?_; rintro e w' ⟨rfl, rfl⟩)
  go_loopw [4, 13] (fun x s wr => x = .slice none 0 0 ∧ s = .int .i64 0 ∧ w = wr) (fun _ _ _ => 0)
  case atStart => exact ⟨rfl, rfl, rfl⟩
  case round =>
    obtain ⟨rfl, rfl, rfl⟩ := hrel
    go_wp2
    go_ret
    exact ⟨rfl, rfl⟩

theorem cmd_zs : (Value.agg #[.int .i64 0, .int .i64 0, .int .i64 0, .int .i64 0, .int .i64 0, .int .i64 0, .int .i64 0]).cells.size = cmdRep.sz := by simp [go_sem, cmdRep_sz]
theorem cmd_sz0 : 0 < cmdRep.sz := by rw [cmdRep_sz]; decide
/-- One more command. -/
theorem wp_pushCmd {ops : Array Oper} {rest : List Oper} {o : Oper} {a : Act} {Q : Exit → Act → World → Prop} (hgd : o.guard = none) (s x : Operand)
    (ho : o.op = .call { callee := .builtin .append, args := #[s, x], argTypes := #[23, 23] })
    {w0 : World} (base : Nat) (v : Value) (xs : List CmdD) (y : CmdD) (hs : a.eval s = v) (hx : a.eval x = .slice (some ⟨w0.heap.size, 0, none⟩) 1 1)
    (HO : Rep.Own cmdRep 45 base nob w0 v xs) (hw : y.wf) (hbase : base ≤ w0.heap.size) (hl : xs.length ≤ 1024)
    (h : ∀ A1 c1 w1, Hold (Rep.Grown cmdRep 45 base nob w0 v w1 A1 c1 (xs ++ [y])) → wpList Try.prog ops Q rest (a.put o.dst (.slice A1 (xs.length + 1) c1)) w1) :
    wpList Try.prog ops Q (o :: rest) a (w0.alloc (.cells #[.int .i64 y.id, .int .i64 y.kind, .int .i64 y.sym, .int .i64 y.tgt, .int .i64 y.side, .int .i64 y.price, .int .i64 y.qty] 45)) :=
  Rep.wp_push cmdRep hgd s x 23 45 (.agg #[.int .i64 0, .int .i64 0, .int .i64 0, .int .i64 0, .int .i64 0, .int .i64 0, .int .i64 0]) 56 ho Try.underlying23 info_cmd cmd_zs cmd_sz0 (by decide) base nob nob v xs y [.int .i64 y.id, .int .i64 y.kind, .int .i64 y.sym, .int .i64 y.tgt, .int .i64 y.side, .int .i64 y.price, .int .i64 y.qty] hs hx HO ⟨rfl, hw⟩ (fun _ h _ => h.elim) hbase (by omega) h
set_option maxHeartbeats 4000000 in
set_option maxRecDepth 100000 in
theorem cmds_calls (g : Nat) (J : Nat → Prop) (w : World) (st : RSt) (h : RAt 131 g J w st) (hJ : ∀ k, J k → k < w.heap.size) :
    Calls Try.prog 26 #[.pointer (some ⟨g, 0, none⟩)] w (CmdsSaid 131 g J st w) := by
  have H := Hold.mk h
  have HJ := Hold.mk hJ
  have HGw := Hold.mk h.lt
  have hrg := numS_range h.bytes
  obtain ⟨n, hn⟩ : ∃ n, (numS st).1 = n := ⟨_, rfl⟩
  rw [hn] at hrg
  have HN := Hold.mk hn
  obtain ⟨hn0, hn1⟩ := hrg
  clear h hJ hn
  go_enter Try.func26, Try.ntmps26
  go_wp2_with fail
  refine (num_calls g J w st H.out).mono ?_
  rintro e w1 ⟨rfl, hr1, hf1⟩
  rw [HN.out]
  have HR1 := Hold.mk hr1
  have HF1 := Hold.mk hf1
  clear hr1 hf1
  by_cases hbig : 1024 < n
  · have t1 := decide_eq_true hbig
    have h0 : (numS st).2.2 = 0 := numS_ok (by rw [HN.out]; omega)
    have HS : Hold (cmdsS st = ([], ([], 2))) := ⟨by unfold cmdsS; rw [HN.out, if_pos hbig]⟩
    obtain ⟨r1, hr1⟩ : ∃ r, (numS st).2.1 = r := ⟨_, rfl⟩
    have hR1 : RAt 131 g J w1 (r1, 0) := by
      have := HR1.out
      rw [show (numS st).2 = (r1, 0) from Prod.ext hr1 h0] at this
      exact this
    have HR1' := Hold.mk hR1
    clear h0 hr1 hR1
    go_wp2_with (go_at_call 84; refine (fail_calls g J w1 r1 HR1'.out 2).mono ?_; rintro e w2 ⟨rfl, HR2, HF2⟩)
    have HF02 : Hold (Fr (Its g) w w2) := ⟨HF1.out.trans HF2.out (fun _ _ h => h)⟩
    go_loopw [4, 13] (fun x s wr => x = .slice none 0 0 ∧ s = .int .i64 0 ∧ w2 = wr) (fun _ _ _ => 0)
    case atStart => exact ⟨rfl, rfl, rfl⟩
    case round =>
      obtain ⟨rfl, rfl, rfl⟩ := hrel
      have l1 : (0 : Int) < n := by omega
      go_wp2_with fail
      refine (cmd_calls g J w2 _ HR2.out (fun k hk => Nat.lt_of_lt_of_le (HJ.out k hk) HF02.out.size)).mono ?_
      rintro e w3 ⟨rfl, hr3, hf3, _⟩
      rw [cmdS_err (by decide)] at hr3 ⊢
      have k3 : w3.cell? ⟨g, 1, none⟩ = some (.int .i64 2) := hr3.err
      have k3' : (w3.alloc (.cells #[.int .i64 zeroCmd.id, .int .i64 zeroCmd.kind, .int .i64 zeroCmd.sym, .int .i64 zeroCmd.tgt, .int .i64 zeroCmd.side, .int .i64 zeroCmd.price, .int .i64 zeroCmd.qty] 45)).cell? ⟨g, 1, none⟩ = some (.int .i64 2) := (hr3.below ((Below.refl _ _).alloc (Nat.le_refl _) _)).err
      have HR3 := Hold.mk hr3
      have HF3 : Hold (Fr (Its g) w w3) := ⟨HF02.out.trans hf3 (fun _ _ h => h)⟩
      clear hr3 hf3
      go_wp2
      go_ret
      refine ⟨none, 0, by rw [HS.out]; rfl, ⟨by rw [HS.out]; exact Rep.Own.nil _ _ _ _ _⟩, ⟨by rw [HS.out]; exact HR3.out.below ((Below.refl _ _).alloc (Nat.le_refl _) _)⟩, ⟨HF3.out.alloc _⟩⟩
  · have t1 := decide_eq_false hbig
    obtain ⟨k, rfl⟩ : ∃ k : Nat, n = k := ⟨n.toNat, by omega⟩
    obtain ⟨s1, hs1⟩ : ∃ s, (numS st).2 = s := ⟨_, rfl⟩
    rw [hs1] at HR1
    have HS : Hold (cmdsS st = if (cmdsK k s1).2.2 ≠ 0 then ([], (cmdsK k s1).2) else cmdsK k s1) := ⟨by unfold cmdsS; rw [HN.out, if_neg hbig, hs1]; simp⟩
    have hk : k ≤ 1024 := by omega
    clear hs1 hbig
    go_wp2
    go_loopw [4, 13] (fun x s wr => ∃ j : Nat, j ≤ k ∧ s = .int .i64 (j : Int) ∧ Hold (j = 0 ∨ (cmdsK j s1).2.2 = 0) ∧ Hold (Rep.Own cmdRep 45 w.heap.size nob wr x (cmdsK j s1).1) ∧ Hold (RAt 131 g J wr (cmdsK j s1).2) ∧ Hold (Fr (Its g) w wr)) (fun _ s _ => k - (intOf s).toNat)
    case atStart => exact ⟨0, by omega, rfl, ⟨.inl rfl⟩, ⟨Rep.Own.nil _ _ _ _ _⟩, HR1, HF1⟩
    case round =>
      obtain ⟨j, hj, rfl, HE, HO, HR, HF⟩ := hrel
      by_cases hlt : j < k
      · have l1 : (j : Int) < (k : Int) := by omega
        obtain ⟨x, hx⟩ : ∃ x, (cmdS (cmdsK j s1).2).1 = x := ⟨_, rfl⟩
        obtain ⟨r', e', hst⟩ : ∃ r e, (cmdS (cmdsK j s1).2).2 = (r, e) := ⟨_, _, rfl⟩
        have HK1 : Hold (cmdsK (j + 1) s1 = ((cmdsK j s1).1 ++ [x], (r', e'))) := ⟨by show (_ ++ [_], _) = _; rw [hx, hst]⟩
        have HX := Hold.mk hx
        have HST := Hold.mk hst
        clear hx hst
        go_wp2_with fail
        refine (cmd_calls g J wr _ HR.out (fun k hk => Nat.lt_of_lt_of_le (HJ.out k hk) HF.out.size)).mono ?_
        rintro e w3 ⟨rfl, hr3, hf3, hw⟩
        rw [HX.out] at hw ⊢
        rw [HST.out] at hr3
        have HR3 := Hold.mk hr3
        have HFs := Hold.mk hf3
        have HF3 : Hold (Fr (Its g) w w3) := ⟨HF.out.trans hf3 (fun _ _ h => h)⟩
        have HW := Hold.mk hw
        have HS3 := Hold.mk hf3.size
        obtain ⟨A0, c0, rfl, hA0⟩ := HO.out.form
        obtain ⟨P, hP⟩ : ∃ P, (cmdsK j s1).1 = P := ⟨_, rfl⟩
        rw [hP] at HO HK1 ⊢
        have HPl : Hold (P.length = j) := ⟨by rw [← hP, cmdsK_len]⟩
        clear hP
        have HO3 : Hold (Rep.Own cmdRep 45 w.heap.size nob w3 (.slice A0 P.length c0) P) := ⟨HO.out.move (fun k hk => HFs.out.block k (HO.out.block_lt k hk).2 (fun e => by have := (HO.out.block_lt k hk).1; have := HGw.out; have e : k = g := e; omega)) (fun _ h _ _ => h.elim)⟩
        clear hr3 hf3 hw hA0
        have k3 : (w3.alloc (.cells #[.int .i64 x.id, .int .i64 x.kind, .int .i64 x.sym, .int .i64 x.tgt, .int .i64 x.side, .int .i64 x.price, .int .i64 x.qty] 45)).cell? ⟨g, 1, none⟩ = some (.int .i64 e') := (HR3.out.below ((Below.refl _ _).alloc (Nat.le_refl _) _)).err
        by_cases he : e' = 0
        · subst he
          go_wp2_with (at_builtin; refine wp_pushCmd rfl (.tmp 22) (.tmp 24) rfl w.heap.size (.slice A0 P.length c0) P x rfl ?a2 (HO3.out.alloc _) HW.out ?d1 ?d2 ?_)
          case a2 => simp [Act.eval]
          case d1 => simp; have := HS3.out; have := HF.out.size; omega
          case d2 => have := HPl.out; omega
          intro A4 c4 w4 HG
          have HO4 : Hold (Rep.Own cmdRep 45 w.heap.size nob w4 (.slice A4 (P.length + 1) c4) (cmdsK (j + 1) s1).1) := ⟨by rw [HK1.out]; have := HG.out.own; simpa using this⟩
          have hown : ∀ k, (Value.slice A0 P.length c0).ownBlock = some k → w.heap.size ≤ k := fun k hk => (HO3.out.block_lt k hk).1
          have HR4 : Hold (RAt 131 g J w4 (cmdsK (j + 1) s1).2) := ⟨by
            rw [HK1.out]
            exact (HR3.out.below ((Below.refl _ _).alloc (Nat.le_refl _) _)).frJ HG.out.fr (fun h => by have := hown _ h; have := HGw.out; omega) (fun k h hj => by have := hown _ h; have := HJ.out k hj; omega)⟩
          have HF4 : Hold (Fr (Its g) w w4) := ⟨(HF3.out.alloc _).trans HG.out.fr (fun i hi h => by have := hown _ h; omega)⟩
          have HE4 : Hold (j + 1 = 0 ∨ (cmdsK (j + 1) s1).2.2 = 0) := ⟨.inr (by rw [HK1.out])⟩
          clear hown
          go_wp2
          exact ⟨⟨j + 1, by omega, by go_num, HE4, HO4, HR4, HF4⟩, by simp [intOf]; omega⟩
        · have t3 : (e' != 0) = true := by simp [he]
          have hS : cmdsS st = ([], (r', e')) := by
            have hk := cmdsK_err (st := s1) (j := j + 1) (k := k) (by omega) (by rw [HK1.out]; exact he)
            rw [HS.out, hk, HK1.out, if_pos he]
          have HS2 := Hold.mk hS
          clear hS
          go_wp2
          go_ret
          refine ⟨none, 0, by rw [HS2.out]; rfl, ⟨by rw [HS2.out]; exact Rep.Own.nil _ _ _ _ _⟩, ⟨by rw [HS2.out]; exact HR3.out.below ((Below.refl _ _).alloc (Nat.le_refl _) _)⟩, ⟨HF3.out.alloc _⟩⟩
      · obtain rfl : j = k := by omega
        go_wp2
        obtain ⟨A0, c0, rfl, _⟩ := HO.out.form
        have hS : cmdsS st = cmdsK j s1 := by
          rw [HS.out]
          by_cases h0 : (cmdsK j s1).2.2 = 0
          · rw [if_neg (by rw [h0]; decide)]
          · rcases HE.out with h | h
            · subst h; rw [if_pos h0]; rfl
            · exact absurd h h0
        go_ret
        refine ⟨A0, c0, by rw [hS]; rfl, ⟨by rw [hS]; exact HO.out⟩, ⟨by rw [hS]; exact HR.out⟩, HF⟩
end Go.Proofs.Ytebhclgnpnlekaa.Rd
