/- NetCounts by its walk; no condition but that its input is read. -/
import Derived.Test.YtgeeicpjphdolaaNetPlays
namespace Go.Proofs.Ytgeeicpjphdolaa.NetLaw
open Go.RowKit Go.Proofs.Ytgeeicpjphdolaa.B
open Go.Proofs.Ytgeeicpjphdolaa.Net (NetAt bytesRep info_bytes size_bytes mine fits Sent)

/-- A net, what came in, and what came out, apart from each other, from block 'base' on. -/
structure Three (base g : Nat) (w : World) (v x y : Value) (lost : Int) (ls ins outs : List (List Int)) : Prop where
  n : NetAt base g (fun k => base ≤ k ∧ some k ≠ x.ownBlock ∧ some k ≠ y.ownBlock) w v 40 lost ls
  i : Rep.Own bytesRep 22 base (fun k => k ≠ g ∧ some k ≠ v.ownBlock ∧ some k ≠ y.ownBlock) w x ins
  o : Rep.Own bytesRep 22 base (fun k => k ≠ g ∧ some k ≠ v.ownBlock ∧ some k ≠ x.ownBlock) w y outs
  xg : x.ownBlock ≠ some g
  yg : y.ownBlock ≠ some g
  xv : ∀ k, x.ownBlock = some k → v.ownBlock ≠ some k
  yv : ∀ k, y.ownBlock = some k → v.ownBlock ≠ some k
  xy : ∀ k, x.ownBlock = some k → y.ownBlock ≠ some k

section
variable {base g : Nat} {w w1 : World} {v v1 x y : Value} {lost l2 : Int} {ls b2 ins outs zs : List (List Int)}
theorem Three.size (h : Three base g w v x y lost ls ins outs) : base ≤ w.heap.size := Nat.le_of_lt (Nat.lt_of_le_of_lt h.n.ge h.n.lt)
theorem Three.below (h : Three base g w v x y lost ls ins outs) (hb : Below w.heap.size w w1) : Three base g w1 v x y lost ls ins outs :=
  ⟨h.n.below hb, h.i.below hb, h.o.below hb, h.xg, h.yg, h.xv, h.yv, h.xy⟩
/-- The net has turned. -/
theorem Three.net (h : Three base g w v x y lost ls ins outs) (hn : NetAt base g (fun k => base ≤ k ∧ some k ≠ x.ownBlock ∧ some k ≠ y.ownBlock) w1 v1 40 l2 b2) (hf : Fr (mine g v) w w1)
    (hv : v1.ownBlock = v.ownBlock ∨ ∃ k, v1.ownBlock = some k ∧ w.heap.size ≤ k) : Three base g w1 v1 x y l2 b2 ins outs := by
  have hne : ∀ k, k < w.heap.size → v.ownBlock ≠ some k → v1.ownBlock ≠ some k := by
    intro k hk hne e
    rcases hv with e2 | ⟨j, e2, hj⟩
    · exact hne (e2.symm.trans e)
    · rw [e] at e2; injection e2 with e2; omega
  refine ⟨hn, h.i.move (fun k hk => hf.block k (h.i.block_lt k hk).2 ?_) (fun k hk _ hlt => ⟨⟨hk.1, fun e => hne k hlt (fun e2 => hk.2.1 e2.symm) e.symm, hk.2.2⟩, hf.block k hlt ?_⟩),
    h.o.move (fun k hk => hf.block k (h.o.block_lt k hk).2 ?_) (fun k hk _ hlt => ⟨⟨hk.1, fun e => hne k hlt (fun e2 => hk.2.1 e2.symm) e.symm, hk.2.2⟩, hf.block k hlt ?_⟩), h.xg, h.yg,
    fun k hk => hne k (h.i.block_lt k hk).2 (h.xv k hk), fun k hk => hne k (h.o.block_lt k hk).2 (h.yv k hk), h.xy⟩
  · rintro (e | e)
    · exact h.xg (by rw [hk, e])
    · exact h.xv k hk e
  · rintro (e | e)
    · exact hk.1 e
    · exact hk.2.1 e.symm
  · rintro (e | e)
    · exact h.yg (by rw [hk, e])
    · exact h.yv k hk e
  · rintro (e | e)
    · exact hk.1 e
    · exact hk.2.1 e.symm
/-- More came in. -/
theorem Three.into {A1 : Option Addr} {c1 : Nat} (h : Three base g w v x y lost ls ins outs) (hg : Rep.Grown bytesRep 22 base (fun k => k ≠ g ∧ some k ≠ v.ownBlock ∧ some k ≠ y.ownBlock) w x w1 A1 c1 zs) :
    Three base g w1 v (.slice A1 zs.length c1) y lost ls zs outs := by
  have hne : ∀ k, k < w.heap.size → x.ownBlock ≠ some k → (Value.slice A1 zs.length c1).ownBlock ≠ some k := by
    intro k hk hne e
    rcases hg.at_ with e2 | ⟨j, e2, hj⟩
    · exact hne (e2.symm.trans e)
    · rw [e] at e2; injection e2 with e2; omega
  have hfr : ∀ k, k < w.heap.size → x.ownBlock ≠ some k → w1.heap[k]? = w.heap[k]? := fun k hk he => hg.fr.block k hk he
  refine ⟨⟨(hfr g h.n.lt h.xg).trans h.n.block, h.n.own.move (fun k hk => hfr k (h.n.own.block_lt k hk).2 (fun e => h.xv k e hk)) (fun k hk _ hlt => ⟨⟨⟨hk.1.1, fun e => hne k hlt (fun e2 => hk.1.2.1 e2.symm) e.symm, hk.1.2.2⟩, hk.2⟩, hfr k hlt (fun e => hk.1.2.1 e.symm)⟩), h.n.ge, h.n.ok, h.n.small⟩,
    hg.own, h.o.move (fun k hk => hfr k (h.o.block_lt k hk).2 (fun e => h.xy k e hk)) (fun k hk _ hlt => ⟨⟨hk.1, hk.2.1, fun e => hne k hlt (fun e2 => hk.2.2 e2.symm) e.symm⟩, hfr k hlt (fun e => hk.2.2 e.symm)⟩),
    hne g h.n.lt h.xg, h.yg, fun k hk e => hne k (h.n.own.block_lt k e).2 (fun e2 => h.xv k e2 e) hk, h.yv, fun k hk e => hne k (h.o.block_lt k e).2 (fun e2 => h.xy k e2 e) hk⟩
theorem Three.swap {base g : Nat} {w : World} {v x y : Value} {lost : Int} {ls ins outs : List (List Int)} (h : Three base g w v x y lost ls ins outs) : Three base g w v y x lost ls outs ins :=
  ⟨⟨h.n.block, h.n.own.mono (fun k hk _ _ => ⟨⟨hk.1.1, hk.1.2.2, hk.1.2.1⟩, hk.2⟩), h.n.ge, h.n.ok, h.n.small⟩, h.o, h.i, h.yg, h.xg, h.yv, h.xv, fun k hk e => h.xy k e hk⟩
end

theorem perm_erase {α : Type} (l : List α) (j : Nat) (h : j < l.length) : l.Perm ([l[j]] ++ l.eraseIdx j) := by
  rw [List.eraseIdx_eq_take_drop_succ]
  have h1 : l = l.take j ++ l[j] :: l.drop (j + 1) := by rw [← List.drop_eq_getElem_cons h, List.take_append_drop]
  refine (List.Perm.of_eq h1).trans ?_
  exact List.perm_middle
/-- What holds behind some acts. -/
def Fair (base g : Nat) (q : Nat) (x y : Value) (w : World) : Prop := ∃ v lost ls ins outs, Three base g w v x y lost ls ins outs ∧ ins.Perm (outs ++ ls) ∧ 0 ≤ lost ∧ lost ≤ q ∧ ins.length ≤ q ∧ outs.length ≤ q

theorem three_fr {base g : Nat} {w w1 : World} {v x y : Value} {lost : Int} {ls ins outs : List (List Int)} (h : Three base g w v x y lost ls ins outs) (hf : Fr (mine g v) w w1) : Below base w w1 := fr_below h.n hf

theorem quiet_drawn {P : Program} {f : FuncId} {args : Array Value} {w : World} {n : Nat} {v : Value}
    (h : Calls P f args (w.drewN n) fun e w' => e = .returned v ∧ Hold (∃ m, w' = (w.drewN n).drewN m)) : Calls P f args (w.drewN n) fun e w'' => e = .returned v ∧ ∃ m, w'' = w.drewN m :=
  h.mono fun _ _ ⟨he, ⟨m, hm⟩⟩ => ⟨he, n + m, by rw [hm, World.drewN_drewN]⟩
theorem count_at (A B : Option Addr) (c n m d : Nat) (l : List (List Int)) (b : List Int) (I J : Nat → Prop) (w : World) (N : Nat) (hn : n = l.length) (hm : m = b.length) (h : Rep.Row bytesRep I w A l) (hb : Rep.Row (Rep.int .u8) J w B b) (hN : cnt l b = N) :
    Calls Try.prog 72 #[.slice A n c, .slice B m d] w fun e w' => e = .returned (.int .i64 N) ∧ Hold (∃ n, w' = w.drewN n) := by
  subst hN; exact count_calls A B c n m d l b I J w hn hm h hb
set_option maxRecDepth 100000 in
set_option maxHeartbeats 8000000 in
theorem counts_law (A : Option Addr) (c : Nat) (l : List ActD) (w : World) (hl : l.length ≤ c) (_hn : A = none → c = 0) (hr : Rep.Row actRep (fun _ => True) w A l) :
    Calls Try.prog 14 #[.slice A l.length c] w fun e w' => e = .returned (.bool true) ∧ Below w.heap.size w w' := by
  obtain ⟨base, hbase⟩ : ∃ b, w.heap.size = b := ⟨_, rfl⟩
  have hr0 : Rep.Row actRep (fun k => k < base) w A l := hr.move fun k _ hlt => ⟨by omega, rfl⟩
  have hm := hr0.len_le
  have HR := Hold.mk hr0
  have HBase := Hold.mk hbase
  clear hr hr0 hbase hl
  go_enter Try.func14, Try.ntmps14
  go_wp2_with fail
  refine (fits_calls A c l _ w HR.out).mono ?_
  rintro e w' ⟨fit, rfl, HFit, rfl⟩
  cases fit
  · go_wp2_with fail
    refine (alive_calls w).mono ?_
    rintro e w1 ⟨rfl, hb⟩
    have HB := Hold.mk hb
    clear hb
    go_wp2
    go_ret
    exact ⟨rfl, HB.out⟩
  have HFd : Hold (Fitted l) := ⟨HFit.out rfl⟩
  go_wp2_with fail
  refine (Net.new_yes 40 base w (by decide) (by decide) (by have := HBase.out; omega) (fun k => base ≤ k ∧ some k ≠ (Value.slice none 0 0).ownBlock ∧ some k ≠ (Value.slice none 0 0).ownBlock)).mono ?_
  rintro e w1 ⟨rfl, hb1, hn1⟩
  rw [HBase.out] at hb1 hn1 ⊢
  have HA1 : Hold (Fair base base (80 * 0) (.slice none 0 0) (.slice none 0 0) w1) := ⟨_, _, _, [], [], ⟨hn1, Rep.Own.nil _ _ _ _ _, Rep.Own.nil _ _ _ _ _, by simp [Value.ownBlock], by simp [Value.ownBlock], by simp [Value.ownBlock], by simp [Value.ownBlock], by simp [Value.ownBlock]⟩, by simp, by omega, by omega, by simp, by simp⟩
  have HB1 := Hold.mk hb1
  clear hb1 hn1
  go_wp2
  go_loopw [6, 7, 8] (fun x y v wr => ∃ i : Nat, i ≤ l.length ∧ v = .int .i64 (i : Int) ∧ Hold (Fair base base (80 * i) x y wr) ∧ Hold (Below base w wr)) (fun _ _ v _ => l.length - (intOf v).toNat)
  case atStart => exact ⟨0, by omega, rfl, HA1, HB1⟩
  case round =>
    obtain ⟨i, hi, rfl, HA, HB⟩ := hrel
    by_cases hlt : i < l.length
    · obtain ⟨v3, lost3, ls3, ins3, outs3, hT, hP, hq⟩ := HA.out
      have l1 : (i : Int) < (l.length : Int) := by omega
      have hrw : Rep.Row actRep (fun k => k < base) wr A l := HR.out.move fun k hk _ => ⟨hk, HB.out.block k hk⟩
      have hgood := HFd.out.2 l[i] (List.getElem_mem hlt)
      obtain ⟨ad, p, A1, c1, rfl, hp, d0, d1, d2, _, hnil, hlc, hr1, wf1, wf2⟩ := row_act hrw i hlt
      obtain ⟨kd, hkd⟩ : ∃ x, l[i].1 = x := ⟨_, rfl⟩
      obtain ⟨bb, hbb⟩ : ∃ x, l[i].2.1 = x := ⟨_, rfl⟩
      obtain ⟨nn, hnn⟩ : ∃ x, l[i].2.2.1 = x := ⟨_, rfl⟩
      rw [hkd] at d0 wf1
      rw [Good, hbb] at hgood
      rw [hbb] at d1 hr1 hlc
      rw [hnn] at d2 wf2
      obtain ⟨k0, k1⟩ := bounds_u8 wf1
      have HG := Hold.mk hgood
      have HR1 := Hold.mk hr1
      have HLc := Hold.mk hlc
      have HNil := Hold.mk hnil
      have HT := Hold.mk hT
      have HP := Hold.mk hP
      have HQ := Hold.mk hq
      clear hT hP hq hkd hbb hnn hrw hnil hr1 wf1 wf2 hgood hlc
      have k5 : kd % 5 = 0 ∨ kd % 5 = 1 ∨ kd % 5 = 2 ∨ kd % 5 = 3 ∨ kd % 5 = 4 := by omega
      obtain ⟨w0, hw0⟩ : ∃ W, wr.alloc (.cells #[.int .u8 kd, .slice A1 bb.length c1, .int .i64 nn] 80) = W := ⟨_, rfl⟩
      have hb0 : Below wr.heap.size wr w0 := by rw [← hw0]; exact (Below.refl _ _).alloc (Nat.le_refl _) _
      have hblk : w0.heap[wr.heap.size]? = some (.cells #[.int .u8 kd, .slice A1 bb.length c1, .int .i64 nn] 80 (0, 0)) := by
        rw [← hw0]; show (wr.heap.push _)[wr.heap.size]? = _; simp
      have HT0 := Hold.mk (HT.out.below hb0)
      have HBw0 : Hold (Below base w w0) := ⟨HB.out.trans (hb0.mono HT.out.size)⟩
      have HR0 : Hold (Rep.Row bytesRep (fun k => k < base) w0 A1 bb) := ⟨HR1.out.below hb0⟩
      have HBox : Hold (∀ w1, Fr (mine base v3) w0 w1 → w1.heap[wr.heap.size]? = some (.cells #[.int .u8 kd, .slice A1 bb.length c1, .int .i64 nn] 80 (0, 0))) := ⟨fun w1 hf => (hf.block _ (Array.getElem?_eq_some_iff.1 hblk).1 (by
        rintro (e | e)
        · have := HT.out.n.lt; omega
        · have := (HT.out.n.own.block_lt _ e).2; omega)).trans hblk⟩
      have a0 : w0.cell? ⟨wr.heap.size, 0, none⟩ = some (.int .u8 kd) := by simp [World.cell?, hblk]
      have a1 : w0.cell? ⟨wr.heap.size, 1, none⟩ = some (.slice A1 bb.length c1) := by simp [World.cell?, hblk]
      have a2 : w0.cell? ⟨wr.heap.size, 2, none⟩ = some (.int .i64 nn) := by simp [World.cell?, hblk]
      have HJ : Hold (∀ k, w0.heap.size ≤ k → base ≤ k ∧ some k ≠ u6.ownBlock ∧ some k ≠ u7.ownBlock) := ⟨fun k hk => by
        have h1 := HT0.out.size
        exact ⟨by omega, fun e => by have := (HT0.out.i.block_lt k e.symm).2; omega, fun e => by have := (HT0.out.o.block_lt k e.symm).2; omega⟩⟩
      have HI80 : Hold (i ≤ 80) := ⟨by have := HFd.out.1; omega⟩
      clear hb0 hblk
      rcases k5 with e5 | e5 | e5 | e5 | e5
      iterate 2
        · go_wp2_with fail
          refine (Net.send_calls base base _ w0 v3 40 lost3 ls3 HT0.out.n A1 c1 bb (fun k => k < base) HR0.out HLc.out (by rintro k hk _ (e | e); (have := HT0.out.n.ge; have hk : k < base := hk; omega); (have := (HT0.out.n.own.block_lt k e).1; have hk : k < base := hk; omega)) HG.out.2 (by have := HG.out.1; omega) HJ.out HQ.out.1 (by have := HQ.out.2.1; have := HI80.out; omega) HT0.out.size).mono ?_
          rintro e w1 ⟨rfl, hf1, v1, hn1, hv1⟩
          obtain ⟨F, hF⟩ : ∃ F, fits 40 (bb.length : Int) (ls3.length : Int) = F := ⟨_, rfl⟩
          rw [hF] at hn1 ⊢
          have hFl : F ≤ bb.length := by rw [← hF]; unfold fits; omega
          have b1 : w1.cell? ⟨wr.heap.size, 1, none⟩ = some (.slice A1 bb.length c1) := by simp [World.cell?, HBox.out w1 hf1]
          have t1 : decide ((F : Int) < 0) = false := decide_eq_false (by omega)
          have t2 : decide (bb.length < F) = false := decide_eq_false (by omega)
          have hlc := HLc.out
          have s1 := fun W => Rep.run_cut_to (P := Try.prog) 27 22 .i64 Try.underlying27 size_bytes A1 bb.length c1 (F : Int) (by omega) (by omega) W
          rw [show ((F : Int)).toNat = F by omega] at s1
          have HT1 := Hold.mk (HT0.out.net hn1 hf1 hv1)
          have HB1 := Hold.mk (HBw0.out.trans (three_fr HT0.out hf1))
          have hra := (HR0.out.move (J := fun k => k < base) (w1 := w1) fun k hk hlt => ⟨hk, hf1.block k hlt (by
            rintro (e | e)
            · have := HT0.out.n.ge; have hk : k < base := hk; omega
            · have := HT0.out.n.own.block_lt k e; have hk : k < base := hk; omega)⟩).take F
          have HRa := Hold.mk hra.v
          have HTl : Hold ((bb.take F).length = F) := ⟨by simp; omega⟩
          have HFl := Hold.mk hFl
          clear hf1 hn1 hv1 hF hFl hra hlc
          go_wp2_with (at_builtin; refine Rep.wp_more bytesRep rfl (.tmp 77) (.tmp 81) 27 22 (.slice none 0 0) 24 rfl Try.underlying27 info_bytes rfl (by decide) (by decide) base (fun k => k ≠ base ∧ some k ≠ v1.ownBlock ∧ some k ≠ u7.ownBlock) (fun k => k < base) u6 ins3 (bb.take F) (ins3 ++ bb.take F) A1 F c1 rfl rfl HTl.out.symm rfl HT1.out.i HRa.out ?c1 ?c2 HT1.out.size ?c3 ?_)
          case c1 =>
            intro k hk _
            have hk : k < base := hk
            exact ⟨⟨by omega, fun e => by have := (HT1.out.n.own.block_lt k e.symm).1; omega, fun e => by have := (HT1.out.o.block_lt k e.symm).1; omega⟩, fun e => by have := (HT1.out.i.block_lt k e.symm).1; omega⟩
          case c2 => exact HNil.out
          case c3 => have := HQ.out.2.2.1; have := HI80.out; have := HG.out.1; have := HFl.out; rw [HTl.out]; omega
          intro A2 c2 w2 HG2
          have HB2 := Hold.mk (HB1.out.trans (HG2.out.below (fun k hk => (HT1.out.i.block_lt k hk).1) HT1.out.size))
          have hz : (ins3 ++ bb.take F).length ≤ 80 * (i + 1) := by rw [List.length_append, HTl.out]; have := HQ.out.2.2.1; have := HG.out.1; have := HFl.out; omega
          have HF2 : Hold (Fair base base (80 * (i + 1)) (.slice A2 (ins3 ++ bb.take F).length c2) u7 w2) := ⟨_, _, _, _, _, HT1.out.into HG2.out, by rw [← List.append_assoc]; exact HP.out.append_right _, by have := HQ.out; have := HFl.out; omega, by have := HQ.out; have := HG.out.1; have := HFl.out; push_cast at this ⊢; omega, hz, by have := HQ.out; omega⟩
          rw [List.length_append, List.length_take] at HF2
          clear hz
          go_wp2
          refine ⟨⟨i + 1, by omega, by go_num, ?_, HB2⟩, by simp [intOf]; omega⟩
          exact HF2
      iterate 2
        · by_cases hn : nn < 0 ∨ (ls3.length : Int) ≤ nn
          · have HNo := Hold.mk hn
            have HF2 : Hold (Fair base base (80 * (i + 1)) u6 u7 w0) := ⟨_, _, _, _, _, HT0.out, HP.out, by have := HQ.out; omega, by have := HQ.out; push_cast at this ⊢; omega, by have := HQ.out; omega, by have := HQ.out; omega⟩
            clear hn
            go_wp2_with fail
            refine (Net.take_no base base _ w0 v3 40 lost3 ls3 HT0.out.n nn HNo.out).mono ?_
            rintro e w1 ⟨rfl, rfl⟩
            go_wp2
            exact ⟨⟨i + 1, by omega, by go_num, HF2, HBw0⟩, by simp [intOf]; omega⟩
          · obtain ⟨j, rfl⟩ : ∃ j : Nat, nn = j := ⟨nn.toNat, by omega⟩
            have hj : j < ls3.length := by omega
            obtain ⟨b, hb⟩ : ∃ b, ls3[j]? = some b := ⟨_, List.getElem?_eq_getElem hj⟩
            have HJj := Hold.mk hj
            have HBb := Hold.mk hb
            clear hn hj hb
            go_wp2_with fail
            refine (Net.take_yes base base _ w0 v3 40 lost3 ls3 HT0.out.n j HJj.out b HBb.out).mono ?_
            rintro e w1 ⟨A2, c2, rfl, hn2, hf1, ho1, v1, hn1, hv1⟩
            have hlb : b.length ≤ c2 := by obtain ⟨_, _, e, hl⟩ := ho1.form; injection e with _ _ e; omega
            have hbk : ∀ k, (Value.slice A2 b.length c2).ownBlock = some k → w0.heap.size ≤ k := fun k hk => (ho1.block_lt k hk).1
            have HT1 := Hold.mk (HT0.out.net hn1 hf1 (.inl hv1))
            have HV1 : Hold (∀ k, v1.ownBlock = some k → k < w0.heap.size) := ⟨fun k hk => by rw [hv1] at hk; exact (HT0.out.n.own.block_lt k hk).2⟩
            have HB1 := Hold.mk (HBw0.out.trans (three_fr HT0.out hf1))
            have HK : Hold (bytesRep.K (fun k => w0.heap.size ≤ k) w1 b [.slice A2 b.length c2]) := ⟨Rep.K_slice hlb hn2 (ho1.row.move fun k hk _ => ⟨hbk k (hk.resolve_left (fun h => h.elim)), rfl⟩)⟩
            clear hn2 hf1 ho1 hn1 hv1 hlb hbk
            go_wp2_with (at_builtin; refine Rep.wp_push bytesRep rfl (.tmp 94) (.tmp 96) 27 22 (.slice none 0 0) 24 rfl Try.underlying27 info_bytes rfl (by decide) (by decide) base (fun k => k ≠ base ∧ some k ≠ v1.ownBlock ∧ some k ≠ u6.ownBlock) (fun k => w0.heap.size ≤ k) u7 outs3 b [.slice A2 b.length c2] rfl rfl HT1.out.o HK.out ?c1 HT1.out.size ?c3 ?_)
            case c1 =>
              intro k hk _
              have hk : w0.heap.size ≤ k := hk
              have h1 := HT0.out.n.lt
              exact ⟨⟨by omega, fun e => by have := HV1.out k e.symm; omega, fun e => by have := (HT0.out.i.block_lt k e.symm).2; omega⟩, fun e => by have := (HT0.out.o.block_lt k e.symm).2; omega⟩
            case c3 => have := HQ.out.2.2.2; have := HI80.out; omega
            intro A4 c4 w2 HG2
            have HB2 := Hold.mk (HB1.out.trans (HG2.out.below (fun k hk => (HT1.out.o.block_lt k hk).1) HT1.out.size))
            have HF2 : Hold (Fair base base (80 * (i + 1)) u6 (.slice A4 (outs3 ++ [b]).length c4) w2) := ⟨_, _, _, _, _, (HT1.out.swap.into HG2.out).swap, by
              refine HP.out.trans ?_
              rw [List.append_assoc]
              refine List.Perm.append_left outs3 ?_
              have hj := HJj.out
              have hb := HBb.out
              rw [List.getElem?_eq_getElem hj] at hb
              injection hb with hb
              rw [← hb]
              exact perm_erase ls3 j hj, by have := HQ.out; omega, by have := HQ.out; push_cast at this ⊢; omega, by have := HQ.out; omega, by have := HQ.out; simp; omega⟩
            rw [List.length_append] at HF2
            go_wp2
            exact ⟨⟨i + 1, by omega, by go_num, HF2, HB2⟩, by simp [intOf]; omega⟩
      · by_cases hn : nn < 0 ∨ (ls3.length : Int) ≤ nn
        · have HNo := Hold.mk hn
          clear hn
          go_wp2_with fail
          refine (Net.at_no base base _ w0 v3 40 lost3 ls3 HT0.out.n nn HNo.out).mono ?_
          rintro e w1 ⟨rfl, rfl⟩
          go_wp2_with fail
          refine (Net.double_no base base _ w0 v3 40 lost3 ls3 HT0.out.n nn HNo.out).mono ?_
          rintro e w1 ⟨rfl, k1, rfl⟩
          have HF2 : Hold (Fair base base (80 * (i + 1)) u6 u7 (w0.drewN k1)) := ⟨_, _, _, _, _, HT0.out.below (below_drewN w0 k1), HP.out, by have := HQ.out; omega, by have := HQ.out; push_cast at this ⊢; omega, by have := HQ.out; omega, by have := HQ.out; omega⟩
          have HB2 : Hold (Below base w (w0.drewN k1)) := ⟨HBw0.out.trans ((below_drewN w0 k1).mono HT0.out.size)⟩
          go_wp2
          exact ⟨⟨i + 1, by omega, by go_num, HF2, HB2⟩, by simp [intOf]; omega⟩
        · obtain ⟨j, rfl⟩ : ∃ j : Nat, nn = j := ⟨nn.toNat, by omega⟩
          have hj : j < ls3.length := by omega
          obtain ⟨b, hb⟩ : ∃ b, ls3[j]? = some b := ⟨_, List.getElem?_eq_getElem hj⟩
          have HJj := Hold.mk hj
          have HBb := Hold.mk hb
          by_cases hfull : (40 : Int) ≤ ls3.length
          · have HFull := Hold.mk hfull
            clear hn hj hb hfull
            go_wp2_with fail
            refine (Net.at_yes base base _ w0 v3 40 lost3 ls3 HT0.out.n j HJj.out b HBb.out).mono ?_
            rintro e w1 ⟨A2, c2, rfl, _, _, hb1⟩
            have HT1 := Hold.mk (HT0.out.below hb1)
            have b2 : w1.cell? ⟨wr.heap.size, 2, none⟩ = some (.int .i64 (j : Int)) := by simp [World.cell?, HBox.out w1 (Fr.of_below _ hb1)]
            have HB1 := Hold.mk (HBw0.out.trans (hb1.mono HT0.out.size))
            clear hb1
            go_wp2_with fail
            refine (Net.double_full base base _ w1 v3 40 lost3 ls3 HT1.out.n j HJj.out HFull.out).mono ?_
            rintro e w2 ⟨rfl, hb2⟩
            have HF2 : Hold (Fair base base (80 * (i + 1)) u6 u7 w2) := ⟨_, _, _, _, _, HT1.out.below hb2, HP.out, by have := HQ.out; omega, by have := HQ.out; push_cast at this ⊢; omega, by have := HQ.out; omega, by have := HQ.out; omega⟩
            have HB2 : Hold (Below base w w2) := ⟨HB1.out.trans (hb2.mono HT1.out.size)⟩
            clear hb2
            go_wp2
            exact ⟨⟨i + 1, by omega, by go_num, HF2, HB2⟩, by simp [intOf]; omega⟩
          · have HRoom : Hold ((ls3.length : Int) < 40) := ⟨by omega⟩
            clear hn hj hb hfull
            go_wp2_with fail
            refine (Net.at_yes base base _ w0 v3 40 lost3 ls3 HT0.out.n j HJj.out b HBb.out).mono ?_
            rintro e w1 ⟨A2, c2, rfl, hn2, ho1, hb1⟩
            have hlb : b.length ≤ c2 := by obtain ⟨_, _, e, hl⟩ := ho1.form; injection e with _ _ e; omega
            have hbk : ∀ k, (Value.slice A2 b.length c2).ownBlock = some k → w0.heap.size ≤ k ∧ k < w1.heap.size := fun k hk => ho1.block_lt k hk
            have HT1 := Hold.mk (HT0.out.below hb1)
            have b2 : w1.cell? ⟨wr.heap.size, 2, none⟩ = some (.int .i64 (j : Int)) := by simp [World.cell?, HBox.out w1 (Fr.of_below _ hb1)]
            have HB1 := Hold.mk (HBw0.out.trans (hb1.mono HT0.out.size))
            have HS1 := Hold.mk hb1.size
            have HO1 := Hold.mk ho1
            have HX := Hold.mk (And.intro hlb (And.intro hn2 hbk))
            clear hb1 hn2 ho1 hlb hbk
            go_wp2_with fail
            refine (Net.double_yes base base _ w1 v3 40 lost3 ls3 HT1.out.n j HJj.out HRoom.out b HBb.out (fun k hk => HJ.out k (Nat.le_trans HS1.out hk))).mono ?_
            rintro e w2 ⟨rfl, hf2, v2, hn2, hv2⟩
            have HT2 := Hold.mk (HT1.out.net hn2 hf2 hv2)
            have HB2 := Hold.mk (HB1.out.trans (three_fr HT1.out hf2))
            have HV2 : Hold (∀ k, v2.ownBlock = some k → k < w0.heap.size ∨ w1.heap.size ≤ k) := ⟨fun k hk => by
              rcases hv2 with e | ⟨q, e, hq⟩
              · rw [e] at hk; exact .inl (HT0.out.n.own.block_lt k hk).2
              · rw [e] at hk; injection hk with hk; exact .inr (by omega)⟩
            have HO2 : Rep.Own (Rep.int .u8) 5 w0.heap.size nob w2 (.slice A2 b.length c2) b := own_stays HT1.out.n hf2 HO1.out HT0.out.n.lt (fun k hk => (HT0.out.n.own.block_lt k hk).2)
            have HK : Hold (bytesRep.K (fun k => w0.heap.size ≤ k ∧ k < w1.heap.size) w2 b [.slice A2 b.length c2]) := ⟨Rep.K_slice HX.out.1 HX.out.2.1 (HO2.row.move fun k hk _ => ⟨HX.out.2.2 k (hk.resolve_left (fun h => h.elim)), rfl⟩)⟩
            clear hf2 hn2 hv2 HO2 b2
            go_wp2_with (at_builtin; refine Rep.wp_push bytesRep rfl (.tmp 57) (.tmp 59) 27 22 (.slice none 0 0) 24 rfl Try.underlying27 info_bytes rfl (by decide) (by decide) base (fun k => k ≠ base ∧ some k ≠ v2.ownBlock ∧ some k ≠ u7.ownBlock) (fun k => w0.heap.size ≤ k ∧ k < w1.heap.size) u6 ins3 b [.slice A2 b.length c2] rfl rfl HT2.out.i HK.out ?c1 HT2.out.size ?c3 ?_)
            case c1 =>
              intro k hk _
              obtain ⟨hk1, hk2⟩ : w0.heap.size ≤ k ∧ k < w1.heap.size := hk
              have h1 := HT0.out.n.lt
              exact ⟨⟨by omega, fun e => by rcases HV2.out k e.symm with h | h <;> omega, fun e => by have := (HT0.out.o.block_lt k e.symm).2; omega⟩, fun e => by have := (HT0.out.i.block_lt k e.symm).2; omega⟩
            case c3 => have := HQ.out.2.2.1; have := HI80.out; omega
            intro A4 c4 w4 HG4
            have HB4 := Hold.mk (HB2.out.trans (HG4.out.below (fun k hk => (HT2.out.i.block_lt k hk).1) HT2.out.size))
            have HF4 : Hold (Fair base base (80 * (i + 1)) (.slice A4 (ins3 ++ [b]).length c4) u7 w4) := ⟨_, _, _, _, _, HT2.out.into HG4.out, by rw [← List.append_assoc]; exact HP.out.append_right _, by have := HQ.out; omega, by have := HQ.out; push_cast at this ⊢; omega, by have := HQ.out; simp; omega, by have := HQ.out; omega⟩
            rw [List.length_append] at HF4
            go_wp2
            exact ⟨⟨i + 1, by omega, by go_num, HF4, HB4⟩, by simp [intOf]; omega⟩
    · obtain rfl : i = l.length := by omega
      obtain ⟨v3, lost3, ls3, ins3, outs3, hT, hP, hq⟩ := HA.out
      obtain ⟨A6, c6, rfl, _, _⟩ := hT.i.len_form
      obtain ⟨A7, c7, rfl, _, _⟩ := hT.o.len_form
      have HT := Hold.mk hT
      have HP := Hold.mk hP
      have HQ := Hold.mk hq
      have hil := hT.i.len_le
      clear hT hP hq
      go_wp2_with fail
      refine (all_calls base base _ wr v3 40 lost3 ls3 HT.out.n).mono ?_
      rintro e w1 ⟨A8, c8, rfl, HO8, HB8⟩
      have HT1 := Hold.mk (HT.out.below HB8.out)
      have HN8 : Hold (A8 = none → c8 = 0) := ⟨HO8.out.cap_nil _ _ _ rfl⟩
      obtain ⟨outs, ho⟩ : ∃ x, outs3 ++ ls3 = x := ⟨_, rfl⟩
      have HOo := Hold.mk ho
      clear ho
      go_wp2_with (at_builtin; refine Rep.wp_more bytesRep rfl (.tmp 98) (.tmp 100) 27 22 (.slice none 0 0) 24 rfl Try.underlying27 info_bytes rfl (by decide) (by decide) base (fun k => k ≠ base ∧ some k ≠ v3.ownBlock ∧ some k ≠ (Value.slice A6 ins3.length c6).ownBlock) (fun k => wr.heap.size ≤ k) (.slice A7 outs3.length c7) outs3 ls3 outs A8 ls3.length c8 rfl rfl rfl HOo.out HT1.out.o (Rep.Row.v (HO8.out.row.move fun k hk _ => ⟨by rcases hk with hk | hk; exact hk; exact (HO8.out.block_lt k hk).1, rfl⟩)) ?c1 HN8.out HT1.out.size ?c3 ?_)
      case c1 =>
        intro k hk _
        have hk : wr.heap.size ≤ k := hk
        have h1 := HT.out.n.lt
        exact ⟨⟨by omega, fun e => by have := (HT.out.n.own.block_lt k e.symm).2; omega, fun e => by have := (HT.out.i.block_lt k e.symm).2; omega⟩, fun e => by have := (HT.out.o.block_lt k e.symm).2; omega⟩
      case c3 => have := HQ.out; have := HT.out.n.ok; have := HFd.out.1; omega
      intro A9 c9 w2 HG2
      have HT2 := Hold.mk (HT1.out.swap.into HG2.out).swap
      have HB2 : Hold (Below base w w2) := ⟨HB.out.trans ((HB8.out.mono HT.out.size).trans (HG2.out.below (fun k hk => (HT1.out.o.block_lt k hk).1) HT1.out.size))⟩
      rw [HOo.out] at HP
      have HPl := Hold.mk HP.out.length_eq
      go_wp2
      go_loopw [16] (fun s wq => ∃ j : Nat, j ≤ ins3.length ∧ s = .int .i64 (j : Int) ∧ Hold (∃ n, wq = w2.drewN n)) (fun s _ => ins3.length - (intOf s).toNat)
      case atStart => exact ⟨0, by omega, rfl, ⟨0, rfl⟩⟩
      case round =>
        obtain ⟨j, hj, rfl, HW⟩ := hrel
        have HTq : Hold (Three base base wr v3 (.slice A6 ins3.length c6) (.slice A9 outs.length c9) lost3 ls3 ins3 outs) := ⟨by
          obtain ⟨n, e⟩ := HW.out; rw [e]; exact HT2.out.below (below_drewN w2 n)⟩
        by_cases hlj : j < ins3.length
        · have l2 : (j : Int) < (ins3.length : Int) := by omega
          obtain ⟨ad6, cs, rfl, _, _, ⟨Ab, cb, rfl, _, _, hrb⟩, hcb⟩ := HTq.out.i.row.at j hlj
          obtain ⟨b, hb⟩ : ∃ b, ins3[j] = b := ⟨_, rfl⟩
          have hcell : wr.cell? (ad6.add j) = some (.slice Ab b.length cb) := by have := hcb 0 _ rfl; rw [hb] at this; simpa [Rep.slice] using this
          rw [hb] at hrb
          obtain ⟨N, hN⟩ : ∃ N, cnt ins3 b = N := ⟨_, rfl⟩
          have hN2 : cnt outs b = N := by rw [← hN]; exact (HP.out.filter _).length_eq.symm
          have HRb := Hold.mk hrb
          have HN1 := Hold.mk hN
          have HN2 := Hold.mk hN2
          have l1n : j < ins3.length := hlj
          have tN : ((N : Int) != (N : Int)) = false := by simp
          clear hcb hb hrb hN hN2
          go_wp2_with fail
          go_quiet ((first
            | (go_at_call 72; exact quiet_drawn (count_at _ _ _ _ _ _ ins3 b _ _ _ N rfl rfl (HTq.out.i.row.drewN _) (HRb.out.drewN _) HN1.out))
            | (go_at_call 72; exact quiet_drawn (count_at _ _ _ _ _ _ outs b _ _ _ N rfl rfl (HTq.out.o.row.drewN _) (HRb.out.drewN _) HN2.out))))
          go_wp2
          exact ⟨⟨j + 1, by omega, by go_num, ⟨by obtain ⟨n, e⟩ := HW.out; exact ⟨n + nq, by rw [e, World.drewN_drewN]⟩⟩⟩, by simp [intOf]; omega⟩
        · obtain rfl : j = ins3.length := by omega
          have tL : ((ins3.length : Int) == (outs.length : Int)) = true := by rw [HPl.out]; simp
          have HB3 : Hold (Below base w wr) := ⟨by obtain ⟨n, e⟩ := HW.out; rw [e]; exact HB2.out.trans ((below_drewN w2 n).mono HT2.out.size)⟩
          go_wp2_with fail
          refine (alive_calls wr).mono ?_
          rintro e w4 ⟨rfl, hb4⟩
          have HB4 := Hold.mk (HB3.out.trans (hb4.mono HTq.out.size))
          clear hb4
          go_wp2
          go_ret
          try rw [HBase.out]
          exact ⟨rfl, HB4.out⟩
end Go.Proofs.Ytgeeicpjphdolaa.NetLaw
