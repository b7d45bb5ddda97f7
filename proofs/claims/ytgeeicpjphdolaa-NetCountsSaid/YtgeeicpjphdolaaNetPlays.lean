/- NetPlays by its walk; no condition but that its input is read. -/
import Derived.Test.YtgeeicpjphdolaaNetStep
import Derived.Deep.RegionHeldLaw
namespace Go.Proofs.Ytgeeicpjphdolaa.NetLaw
open Go.RowKit Go.Proofs.Ytgeeicpjphdolaa.B
open Go.Proofs.Ytgeeicpjphdolaa.Net (NetAt bytesRep info_bytes size_bytes mine fits Sent)
open Go.Proofs.Ytgeeicpjphdolaa.RefNet (RefNetAt Held)

theorem net_empty {base g : Nat} {J K : Nat → Prop} {w : World} {v : Value} {room lost : Int} (h : NetAt base g J w v room lost []) : NetAt base g K w v room lost [] :=
  ⟨h.block, by obtain ⟨cells, ho, _⟩ := h.own; exact ⟨cells, ho, fun i x hi => by simp at hi⟩, h.ge, h.ok, h.small⟩
theorem two_new {base : Nat} {w w1 : World} {room : Int} (hb : base = w.heap.size) (hn : NetAt base w.heap.size (fun k => base ≤ k ∧ k ≠ w1.heap.size) w1 (.slice none 0 0) room 0 []) :
    Two base w.heap.size w1.heap.size (w1.alloc (.cells #[.int .i64 room, .slice none 0 0, .int .i64 0] 77 (0, 0))) (.slice none 0 0) (.slice none 0 0) room 0 [] := by
  refine ⟨hn.below ((Below.refl _ _).alloc (Nat.le_refl _) _), ⟨?_, ⟨none, 0, rfl, fun _ => rfl, Nat.le_refl _, Rep.Row.nil _ _ _ _⟩, hn.ok⟩, ?_, by simp [Value.ownBlock], ?_⟩
  · show (w1.heap.push _)[w1.heap.size]? = _; simp
  · have := hn.lt; omega
  · have := hn.lt; omega

theorem same_true (A1 A2 : Option Addr) (n m c1 c2 : Nat) (xs : List (List Int)) (I J : Nat → Prop) (w : World) (hn : n = xs.length) (hm : m = xs.length) (h1 : Rep.Row (Rep.slice (Rep.int .u8)) I w A1 xs) (h2 : Rep.Row (Rep.slice (Rep.int .u8)) J w A2 xs) :
    Calls Try.prog 20 #[.slice A1 n c1, .slice A2 m c2] w fun e w' => e = .returned (.bool true) ∧ Hold (∃ n, w' = w.drewN n) :=
  (Frame.same_at A1 A2 n m c1 c2 xs xs I J w hn hm h1 h2).mono fun e w' ⟨he, hw⟩ => ⟨by rw [he, decide_eq_true rfl], hw⟩
set_option maxRecDepth 100000 in
set_option maxHeartbeats 8000000 in
theorem plays_law (room : Int) (A : Option Addr) (c : Nat) (l : List ActD) (w : World) (_hk : (Lit.int .i64 room).wf = true) (hl : l.length ≤ c) (_hn : A = none → c = 0) (hr : Rep.Row actRep (fun _ => True) w A l) :
    Calls Try.prog 13 #[.int .i64 room, .slice A l.length c] w fun e w' => e = .returned (.bool true) ∧ Below w.heap.size w w' := by
  obtain ⟨base, hbase⟩ : ∃ b, w.heap.size = b := ⟨_, rfl⟩
  have hr0 : Rep.Row actRep (fun k => k < base) w A l := hr.move fun k _ hlt => ⟨by omega, rfl⟩
  have hm := hr0.len_le
  have HR := Hold.mk hr0
  have HBase := Hold.mk hbase
  clear hr hr0 hbase hl
  go_enter Try.func13, Try.ntmps13
  go_wp2_with fail
  refine (fits_calls A c l _ w HR.out).mono ?_
  rintro e w' ⟨fit, rfl, HFit, rfl⟩
  cases fit
  · go_wp2_with fail
    refine (alive_calls w).mono ?_
    rintro e w1 ⟨rfl, hb⟩
    have HB := Hold.mk hb
    clear hb
    go_wp2
    go_ret
    exact ⟨rfl, HB.out⟩
  have HFd : Hold (Fitted l) := ⟨HFit.out rfl⟩
  by_cases hroom : room < 1 ∨ 4096 < room
  · have HRoom := Hold.mk hroom
    have HRn : Hold (false = decide (1 ≤ room ∧ room ≤ 4096)) := ⟨(decide_eq_false (by omega)).symm⟩
    clear hroom
    go_wp2_with (first
      | (go_at_call 62; refine (Net.new_no room w HRoom.out).mono ?_; rintro e w' ⟨rfl, rfl⟩)
      | (go_at_call 63; refine (right_calls room w false HRn.out).mono ?_; rintro e w' ⟨rfl, rfl⟩)
      | (go_at_call 61; refine (alive_calls w).mono ?_; rintro e w1 ⟨rfl, hb⟩; have HB := Hold.mk hb; clear hb))
    go_ret
    exact ⟨rfl, HB.out⟩
  have h0 : 1 ≤ room := by omega
  have h1 : room ≤ 4096 := by omega
  have HRy : Hold (true = decide (1 ≤ room ∧ room ≤ 4096)) := ⟨(decide_eq_true ⟨h0, h1⟩).symm⟩
  have H0 := Hold.mk h0
  have H1 := Hold.mk h1
  clear hroom h0 h1
  go_wp2_with fail
  refine (Net.new_yes room base w H0.out H1.out (by have := HBase.out; omega) (fun _ => True)).mono ?_
  rintro e w1 ⟨rfl, hb1, hn1⟩
  have hT1 := two_new HBase.out.symm (net_empty hn1)
  rw [HBase.out] at hb1 hn1 hT1 ⊢
  obtain ⟨m, hm1⟩ : ∃ m, w1.heap.size = m := ⟨_, rfl⟩
  have hle : base ≤ w1.heap.size := Nat.le_of_lt hn1.lt
  rw [hm1] at hT1
  have HA1 : Hold (Alike base base m room (80 * 0) (w1.alloc (.cells #[.int .i64 room, .slice none 0 0, .int .i64 0] 77 (0, 0)))) := ⟨⟨_, _, _, _, hT1, by omega, by simp⟩⟩
  have HB1 := Hold.mk (hb1.alloc hle (.cells #[.int .i64 room, .slice none 0 0, .int .i64 0] 77 (0, 0)))
  clear hb1 hn1 hT1 hle
  go_wp2_with (go_at_call 63; refine (right_calls room w1 true HRy.out).mono ?_; rintro e w' ⟨rfl, rfl⟩)
  clear hm1
  go_loopw [10] (fun v wr => ∃ i : Nat, i ≤ l.length ∧ v = .int .i64 (i : Int) ∧ Hold (Alike base base m room (80 * i) wr) ∧ Hold (Below base w wr)) (fun v _ => l.length - (intOf v).toNat)
  case atStart => exact ⟨0, by omega, rfl, HA1, HB1⟩
  case round =>
    obtain ⟨i, hi, rfl, HA, HB⟩ := hrel
    by_cases hlt : i < l.length
    · obtain ⟨v3, u3, lost3, ls3, hT, hq0, hq1⟩ := HA.out
      have HT := Hold.mk hT
      have HQ := Hold.mk (And.intro hq0 hq1)
      have l1 : (i : Int) < (l.length : Int) := by omega
      have hrw : Rep.Row actRep (fun k => k < base) wr A l := HR.out.move fun k hk _ => ⟨hk, HB.out.block k hk⟩
      have hgood := HFd.out.2 l[i] (List.getElem_mem hlt)
      obtain ⟨ad, p, A1, c1, rfl, hp, d0, d1, d2, _, hnil, hlc, hr1, wf1, wf2⟩ := row_act hrw i hlt
      obtain ⟨kd, hkd⟩ : ∃ x, l[i].1 = x := ⟨_, rfl⟩
      obtain ⟨bb, hbb⟩ : ∃ x, l[i].2.1 = x := ⟨_, rfl⟩
      obtain ⟨nn, hnn⟩ : ∃ x, l[i].2.2.1 = x := ⟨_, rfl⟩
      rw [hkd] at d0 wf1
      rw [Good, hbb] at hgood
      rw [hbb] at d1 hr1 hlc
      rw [hnn] at d2 wf2
      have HG := Hold.mk hgood
      have HR1 := Hold.mk hr1
      have HLc := Hold.mk hlc
      have HW := Hold.mk wf1
      clear hT hq0 hq1 hkd hbb hnn hrw hnil hr1 wf1 wf2 hgood hlc
      go_wp2_with fail
      refine (step_calls base base m wr v3 u3 room lost3 ls3 (80 * i) HT.out HQ.out.1 HQ.out.2 (by have := HFd.out.1; omega) kd nn A1 c1 bb HW.out HR1.out HLc.out HG.out.1 HG.out.2).mono ?_
      rintro e w4 ⟨rfl, HF4, HA4⟩
      have HB4 : Hold (Below base w w4) := ⟨HB.out.trans ⟨HF4.out.os, HF4.out.tape, HF4.out.output, HF4.out.size, fun k hk => HF4.out.block k (Nat.lt_of_lt_of_le hk HT.out.size) (fun e => by have := (ours_ge HT.out e).1; omega)⟩⟩
      obtain ⟨v4, u4, lost4, ls4, hT4, hq4⟩ := HA4.out
      obtain ⟨Au, cu, rfl, hnu, hcu, hru⟩ := hT4.r.row
      have m1 : w4.cell? ⟨m, 1, none⟩ = some (.slice Au ls4.length cu) := hT4.r.c1
      have HT4 := Hold.mk hT4
      have HQ4 := Hold.mk hq4
      have HRu := Hold.mk hru
      clear hT4 hq4 hnu hcu hru d0 d1 d2 hp
      go_wp2_with fail
      go_region_held_law (fun w' => w'.cell? ⟨m, 1, none⟩ = some (.slice Au ls4.length cu)) (first | go_keep | exact cm5 | exact cm6) (first
        | (go_at_call 65; (refine (all_calls base base _ w4.drew _ room lost4 ls4 (HT4.out.n.below (below_drewN w4 1))).mono ?_); rintro e w5 ⟨A5, c5, rfl, HO5, HB5⟩; have cm5 : w5.cell? ⟨m, 1, none⟩ = some (.slice Au ls4.length cu) := ((HT4.out.below (below_drewN w4 1)).below HB5.out).r.c1)
        | (go_at_call 20; (refine (same_true A5 Au ls4.length ls4.length c5 cu ls4 _ _ w5 rfl rfl HO5.out.row (HRu.out.below ((below_drewN w4 1).trans HB5.out))).mono ?_); rintro e w6 ⟨rfl, ⟨k6, rfl⟩⟩; have cm6 : (w5.drewN k6).cell? ⟨m, 1, none⟩ = some (.slice Au ls4.length cu) := cm5))
      have hT7 := (HT4.out.below (below_drewN w4 1)).below (HB5.out.trans ((below_drewN w5 k6).mono HB5.out.size))
      have hb7 : Below base w (w5.drewN k6) := HB4.out.trans (((below_drewN w4 1).trans (HB5.out.trans ((below_drewN w5 k6).mono HB5.out.size))).mono HT4.out.size)
      generalize w5.drewN k6 = w7 at hT7 hb7 cm6 ⊢
      have m2 : w7.cell? ⟨m, 2, none⟩ = some (.int .i64 lost4) := hT7.r.c2
      have HT7 := Hold.mk hT7
      have HB7 := Hold.mk hb7
      clear cm5 m1 hT7 hb7
      go_wp2_with fail
      go_quiet ((first
        | (go_at_call 66; exact quiet_left (Net.lost_calls base base _ _ v4 room lost4 ls4 (HT7.out.n.below (below_drewN w7 _))))
        | (go_at_call 67; exact quiet_left (Net.len_calls base base _ _ v4 room lost4 ls4 (HT7.out.n.below (below_drewN w7 _))))))
      go_wp2
      refine ⟨⟨i + 1, by omega, by go_num, ⟨_, _, _, _, HT7.out.below (below_drewN w7 _), HQ4.out.1, by have := HQ4.out.2; push_cast at this ⊢; omega⟩, ⟨HB7.out.trans ((below_drewN w7 _).mono HT7.out.size)⟩⟩, by simp [intOf]; omega⟩
    · obtain rfl : i = l.length := by omega
      obtain ⟨v3, u3, lost3, ls3, hT, _⟩ := HA.out
      have HT := Hold.mk hT
      clear hT
      go_wp2_with fail
      refine (Net.at_no base base _ wr v3 room lost3 ls3 HT.out.n (-1) (.inl (by decide))).mono ?_
      rintro e w4 ⟨rfl, rfl⟩
      go_wp2_with fail
      refine (Net.len_calls base base _ wr v3 room lost3 ls3 HT.out.n).mono ?_
      rintro e w4 ⟨rfl, rfl⟩
      go_wp2_with fail
      refine (Net.at_no base base _ wr v3 room lost3 ls3 HT.out.n ls3.length (.inr (by omega))).mono ?_
      rintro e w4 ⟨rfl, rfl⟩
      go_wp2_with fail
      refine (Net.take_nil wr 0).mono ?_
      rintro e w4 ⟨rfl, rfl⟩
      go_wp2_with fail
      refine (Net.at_nil wr 0).mono ?_
      rintro e w4 ⟨rfl, rfl⟩
      go_wp2_with fail
      refine (alive_calls wr).mono ?_
      rintro e w4 ⟨rfl, hb4⟩
      have HB4 := Hold.mk (HB.out.trans (hb4.mono HT.out.size))
      have HS4 := Hold.mk (Nat.le_trans HT.out.size hb4.size)
      clear hb4
      go_wp2_with fail
      refine (Net.double_nil w4 0).mono ?_
      rintro e w5 ⟨rfl, k5, rfl⟩
      have HB5 := Hold.mk (HB4.out.trans ((below_drewN w4 k5).mono HS4.out))
      have HS5 : Hold (base ≤ (w4.drewN k5).heap.size) := ⟨HS4.out⟩
      generalize w4.drewN k5 = w5 at HB5 HS5 ⊢
      have kc : ∀ (w : World) (b : Nat) (C : Array Value) (n c : Nat), b = w.heap.size → (convert 22 22 (.slice (some ⟨b, 0, none⟩) n c)).run Try.prog (w.alloc (.cells C 5)) = .ok (.slice (some ⟨b, 0, none⟩) n c) (w.alloc (.cells C 5 (C.size, C.size + 1))) := fun w b C n c h => by
        subst h; exact Lib.run_convert_bytes_const (P := Try.prog) w 22 5 C n c Try.underlying22 Try.underlying5
      go_wp2_with (first
        | (go_at_call 71; refine (Net.send_nil _ _).mono ?_; rintro e w6 ⟨rfl, rfl⟩)
        | (go_at_call 67; refine (Net.len_nil _).mono ?_; rintro e w6 ⟨rfl, rfl⟩)
        | (go_at_call 66; refine (Net.lost_nil _).mono ?_; rintro e w6 ⟨rfl, rfl⟩))
      go_ret
      refine ⟨rfl, ?_⟩
      try rw [HBase.out]
      exact HB5.out.trans (((Below.refl _ _).alloc HS5.out _).alloc (by have := HS5.out; simp; omega) _)
end Go.Proofs.Ytgeeicpjphdolaa.NetLaw
