/- Commands that come, the document's way: by its walk. -/
import Derived.Test.YtebhclgnpnlekaaRdCmds
namespace Go.Proofs.Ytebhclgnpnlekaa.Rd
open Go.RowKit Go.Proofs.Ytebhclgnpnlekaa.B Go.Proofs.Ytebhclgnpnlekaa.Cmd

set_option maxHeartbeats 4000000 in
set_option maxRecDepth 100000 in
theorem refCmds_calls (g : Nat) (J : Nat → Prop) (w : World) (st : RSt) (h : RAt 40 g J w st) (hJ : ∀ k, J k → k < w.heap.size) :
    Calls Try.prog 27 #[.pointer (some ⟨g, 0, none⟩)] w (CmdsSaid 40 g J st w) := by
  have H := Hold.mk h
  have HJ := Hold.mk hJ
  have HGw := Hold.mk h.lt
  have hrg := numS_range h.bytes
  obtain ⟨n, hn⟩ : ∃ n, (numS st).1 = n := ⟨_, rfl⟩
  rw [hn] at hrg
  have HN := Hold.mk hn
  obtain ⟨hn0, hn1⟩ := hrg
  clear h hJ hn
  go_enter Try.func27, Try.ntmps27
  go_wp2_with fail
  refine (refNum_calls g J w st H.out).mono ?_
  rintro e w1 ⟨rfl, hr1, hf1⟩
  rw [HN.out]
  have HR1 := Hold.mk hr1
  have HF1 := Hold.mk hf1
  clear hr1 hf1
  by_cases hbig : 1024 < n
  · have t1 := decide_eq_true hbig
    have h0 : (numS st).2.2 = 0 := numS_ok (by rw [HN.out]; omega)
    have HS : Hold (cmdsS st = ([], ([], 2))) := ⟨by unfold cmdsS; rw [HN.out, if_pos hbig]⟩
    obtain ⟨r1, hr1⟩ : ∃ r, (numS st).2.1 = r := ⟨_, rfl⟩
    have hR1 : RAt 40 g J w1 (r1, 0) := by
      have := HR1.out
      rw [show (numS st).2 = (r1, 0) from Prod.ext hr1 h0] at this
      exact this
    have HR1' := Hold.mk hR1
    clear h0 hr1 hR1
    go_wp2_with (go_at_call 85; refine (refFail_calls g J w1 (r1, 0) HR1'.out 2).mono ?_; rintro e w2 ⟨rfl, HR2, HF2⟩)
    have HF02 : Hold (Fr (Its g) w w2) := ⟨HF1.out.trans HF2.out (fun _ _ h => h)⟩
    have k2 : w2.cell? ⟨g, 1, none⟩ = some (.int .i64 2) := HR2.out.err
    go_loopw [4, 5] (fun x s wr => x = .slice none 0 0 ∧ s = .int .i64 0 ∧ w2 = wr) (fun _ _ _ => 0)
    case atStart => exact ⟨rfl, rfl, rfl⟩
    case round =>
      obtain ⟨rfl, rfl, rfl⟩ := hrel
      have l1 : (0 : Int) < n := by omega
      go_wp2
      go_ret
      refine ⟨none, 0, by rw [HS.out]; rfl, ⟨by rw [HS.out]; exact Rep.Own.nil _ _ _ _ _⟩, ⟨by rw [HS.out]; exact HR2.out⟩, HF02⟩
  · have t1 := decide_eq_false hbig
    obtain ⟨k, rfl⟩ : ∃ k : Nat, n = k := ⟨n.toNat, by omega⟩
    obtain ⟨s1, hs1⟩ : ∃ s, (numS st).2 = s := ⟨_, rfl⟩
    rw [hs1] at HR1
    have HS : Hold (cmdsS st = if (cmdsK k s1).2.2 ≠ 0 then ([], (cmdsK k s1).2) else cmdsK k s1) := ⟨by unfold cmdsS; rw [HN.out, if_neg hbig, hs1]; simp⟩
    have hk : k ≤ 1024 := by omega
    clear hs1 hbig
    go_wp2
    go_loopw [4, 5] (fun x s wr => ∃ j : Nat, j ≤ k ∧ s = .int .i64 (j : Int) ∧ Hold (Rep.Own cmdRep 45 w.heap.size nob wr x (cmdsK j s1).1) ∧ Hold (RAt 40 g J wr (cmdsK j s1).2) ∧ Hold (Fr (Its g) w wr)) (fun _ s _ => k - (intOf s).toNat)
    case atStart => exact ⟨0, by omega, rfl, ⟨Rep.Own.nil _ _ _ _ _⟩, HR1, HF1⟩
    case round =>
      obtain ⟨j, hj, rfl, HO, HR, HF⟩ := hrel
      obtain ⟨A0, c0, rfl, hA0⟩ := HO.out.form
      obtain ⟨P, r0, e0, hst0⟩ : ∃ P r e, cmdsK j s1 = (P, (r, e)) := ⟨_, _, _, rfl⟩
      have HPl : Hold (P.length = j) := ⟨by have := cmdsK_len j s1; rw [hst0] at this; exact this⟩
      have HST0 := Hold.mk hst0
      have HO0 : Hold (Rep.Own cmdRep 45 w.heap.size nob wr (.slice A0 P.length c0) P) := ⟨by have := HO.out; rw [hst0] at this; exact this⟩
      have HR0 : Hold (RAt 40 g J wr (r0, e0)) := ⟨by have := HR.out; rw [hst0] at this; exact this⟩
      rw [show (cmdsK j s1).1 = P by rw [hst0]]
      have k0 : wr.cell? ⟨g, 1, none⟩ = some (.int .i64 e0) := HR0.out.err
      clear hst0 HO HR hA0
      by_cases he : e0 = 0
      · subst he
        by_cases hlt : j < k
        · have l1 : (j : Int) < (k : Int) := by omega
          obtain ⟨x, hx⟩ : ∃ x, (cmdS (r0, 0)).1 = x := ⟨_, rfl⟩
          obtain ⟨r', e', hst⟩ : ∃ r e, (cmdS (r0, 0)).2 = (r, e) := ⟨_, _, rfl⟩
          have HK1 : Hold (cmdsK (j + 1) s1 = (P ++ [x], (r', e'))) := ⟨by show ((cmdsK j s1).1 ++ [(cmdS (cmdsK j s1).2).1], _) = _; rw [HST0.out]; show (P ++ [(cmdS (r0, 0)).1], (cmdS (r0, 0)).2) = _; rw [hx, hst]⟩
          have HX := Hold.mk hx
          have HST := Hold.mk hst
          clear hx hst
          go_wp2_with fail
          refine (refCmd_calls g J wr _ HR0.out (fun k hk => Nat.lt_of_lt_of_le (HJ.out k hk) HF.out.size)).mono ?_
          rintro e w3 ⟨rfl, hr3, hf3, hw⟩
          rw [HX.out] at hw ⊢
          rw [HST.out] at hr3
          have HR3 := Hold.mk hr3
          have HFs := Hold.mk hf3
          have HF3 : Hold (Fr (Its g) w w3) := ⟨HF.out.trans hf3 (fun _ _ h => h)⟩
          have HW := Hold.mk hw
          have HS3 := Hold.mk hf3.size
          have HO3 : Hold (Rep.Own cmdRep 45 w.heap.size nob w3 (.slice A0 P.length c0) P) := ⟨HO0.out.move (fun k hk => HFs.out.block k (HO0.out.block_lt k hk).2 (fun e => by have := (HO0.out.block_lt k hk).1; have := HGw.out; have e : k = g := e; omega)) (fun _ h _ _ => h.elim)⟩
          clear hr3 hf3 hw
          go_wp2_with (at_builtin; refine wp_pushCmd rfl (.tmp 24) (.tmp 27) rfl w.heap.size (.slice A0 P.length c0) P x rfl ?a2 HO3.out HW.out ?d1 ?d2 ?_)
          case a2 => first | rfl | simp [Act.eval]
          case d1 => have := HS3.out; have := HF.out.size; omega
          case d2 => have := HPl.out; omega
          intro A4 c4 w4 HG
          have HO4 : Hold (Rep.Own cmdRep 45 w.heap.size nob w4 (.slice A4 (P.length + 1) c4) (cmdsK (j + 1) s1).1) := ⟨by rw [HK1.out]; have := HG.out.own; simpa using this⟩
          have hown : ∀ k, (Value.slice A0 P.length c0).ownBlock = some k → w.heap.size ≤ k := fun k hk => (HO3.out.block_lt k hk).1
          have HR4 : Hold (RAt 40 g J w4 (cmdsK (j + 1) s1).2) := ⟨by
            rw [HK1.out]
            exact HR3.out.frJ HG.out.fr (fun h => by have := hown _ h; have := HGw.out; omega) (fun k h hj => by have := hown _ h; have := HJ.out k hj; omega)⟩
          have HF4 : Hold (Fr (Its g) w w4) := ⟨HF3.out.trans HG.out.fr (fun i hi h => by have := hown _ h; omega)⟩
          clear hown
          go_wp2
          exact ⟨⟨j + 1, by omega, by go_num, HO4, HR4, HF4⟩, by simp [intOf]; omega⟩
        · obtain rfl : j = k := by omega
          have hS : cmdsS st = (P, (r0, 0)) := by rw [HS.out, HST0.out]; rfl
          have HS2 := Hold.mk hS
          clear hS
          go_wp2
          go_ret
          refine ⟨A0, c0, by rw [HS2.out]; rfl, ⟨by rw [HS2.out]; exact HO0.out⟩, ⟨by rw [HS2.out]; exact HR0.out⟩, HF⟩
      · have t3 : (e0 != 0) = true := by simp [he]
        have hS : cmdsS st = ([], (r0, e0)) := by
          have hk := cmdsK_err (st := s1) (j := j) (k := k) (by omega) (by rw [HST0.out]; exact he)
          rw [HS.out, hk, HST0.out, if_pos he]
        have HS2 := Hold.mk hS
        clear hS
        by_cases hlt : j < k
        · have l1 : (j : Int) < (k : Int) := by omega
          go_wp2
          go_ret
          refine ⟨none, 0, by rw [HS2.out]; rfl, ⟨by rw [HS2.out]; exact Rep.Own.nil _ _ _ _ _⟩, ⟨by rw [HS2.out]; exact HR0.out⟩, HF⟩
        · obtain rfl : j = k := by omega
          go_wp2
          go_ret
          refine ⟨none, 0, by rw [HS2.out]; rfl, ⟨by rw [HS2.out]; exact Rep.Own.nil _ _ _ _ _⟩, ⟨by rw [HS2.out]; exact HR0.out⟩, HF⟩
end Go.Proofs.Ytebhclgnpnlekaa.Rd
