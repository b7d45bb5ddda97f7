/- DiskSafe by its walk; no condition but that its input is read. -/
import Derived.Test.YtgeeicpjphdolaaDiskAlive
namespace Go.Proofs.Ytgeeicpjphdolaa.DiskLaw
open Go.RowKit Go.Proofs.Ytgeeicpjphdolaa.B
open Go.Proofs.Ytgeeicpjphdolaa.Disk (DiskAt crashN mine)
open Go.Proofs.Ytgeeicpjphdolaa.RefDisk (RefAt size_u8)

/-- Two disks that stand alike, somehow. -/
def Alike (base g m : Nat) (room : Int) (w : World) : Prop := ∃ v u s b, Two base g m w v u room s b
theorem ref_new (base g : Nat) (w : World) (room : Int) (hd : DiskAt base g w (.slice none 0 0) room 0 []) (h : 0 ≤ room ∧ room ≤ 16777216) :
    Two base g w.heap.size (w.alloc (.cells #[.int .i64 room, .slice none 0 0, .int .i64 0] 43 (0, 0))) (.slice none 0 0) (.slice none 0 0) room 0 [] :=
  ⟨hd.below ((Below.refl _ _).alloc (Nat.le_refl _) _),
   ⟨by show (w.heap.push _)[w.heap.size]? = _; simp, ⟨none, 0, rfl, fun _ => rfl, by simp, Rep.Row.nil _ _ _ _⟩, by simp; omega⟩,
   by have := hd.lt; omega, (by intro e; cases e), by have := hd.lt; have := hd.ge; omega⟩

set_option maxRecDepth 100000 in
set_option maxHeartbeats 4000000 in
theorem safe_law (A : Option Addr) (c : Nat) (l : List ActD) (keep : Int) (w : World) (hl : l.length ≤ c) (_hn : A = none → c = 0) (hr : Rep.Row actRep (fun _ => True) w A l) (_hk : (Lit.int .i64 keep).wf = true) :
    Calls Try.prog 6 #[.slice A l.length c, .int .i64 keep] w fun e w' => e = .returned (.bool true) ∧ Below w.heap.size w w' := by
  obtain ⟨base, hbase⟩ : ∃ b, w.heap.size = b := ⟨_, rfl⟩
  have hr0 : Rep.Row actRep (fun k => k < base) w A l := hr.move fun k _ hlt => ⟨by omega, rfl⟩
  have hm := hr0.len_le
  have HR := Hold.mk hr0
  have HBase := Hold.mk hbase
  clear hr hr0 hbase hl
  go_enter Try.func6, Try.ntmps6
  go_wp2_with fail
  refine (fits_calls A c l _ w HR.out).mono ?_
  rintro e w' ⟨fit, rfl, rfl⟩
  cases fit
  · go_wp2_with fail
    refine (alive_calls w).mono ?_
    rintro e w1 ⟨rfl, hb⟩
    have HB := Hold.mk hb
    clear hb
    go_wp2
    go_ret
    exact ⟨rfl, HB.out⟩
  go_wp2_with fail
  refine (Disk.new_yes 2000 base w (by decide) (by decide) (by have := HBase.out; omega)).mono ?_
  rintro e w1 ⟨rfl, hb1, hd1⟩
  rw [HBase.out] at hb1 hd1 ⊢
  have hT1 := ref_new base base w1 2000 hd1 (by decide)
  obtain ⟨m, hm1⟩ : ∃ m, w1.heap.size = m := ⟨_, rfl⟩
  have hle : base ≤ w1.heap.size := Nat.le_of_lt hd1.lt
  rw [hm1] at hT1
  have HA1 : Hold (Alike base base m 2000 (w1.alloc (.cells #[.int .i64 2000, .slice none 0 0, .int .i64 0] 43 (0, 0)))) := ⟨⟨_, _, _, _, hT1⟩⟩
  have HB1 := Hold.mk (hb1.alloc hle (.cells #[.int .i64 2000, .slice none 0 0, .int .i64 0] 43 (0, 0)))
  clear hb1 hd1 hT1 hle
  go_wp2
  clear hm1
  go_loopw [9] (fun v wr => ∃ i : Nat, i ≤ l.length ∧ v = .int .i64 (i : Int) ∧ Hold (Alike base base m 2000 wr) ∧ Hold (Below base w wr)) (fun v _ => l.length - (intOf v).toNat)
  case atStart => exact ⟨0, by omega, rfl, HA1, HB1⟩
  case round =>
    obtain ⟨i, hi, rfl, HA, HB⟩ := hrel
    by_cases hlt : i < l.length
    · have hrw : Rep.Row actRep (fun k => k < base) wr A l := HR.out.move fun k hk _ => ⟨hk, HB.out.block k hk⟩
      obtain ⟨ad, p, A1, c1, rfl, hp, d0, d1, d2, _, hnil, hr1, wf1, wf2⟩ := row_act hrw i hlt
      obtain ⟨kd, hkd⟩ : ∃ x, l[i].1 = x := ⟨_, rfl⟩
      obtain ⟨bb, hbb⟩ : ∃ x, l[i].2.1 = x := ⟨_, rfl⟩
      obtain ⟨nn, hnn⟩ : ∃ x, l[i].2.2.1 = x := ⟨_, rfl⟩
      rw [hkd] at d0 wf1
      rw [hbb] at d1 hr1
      rw [hnn] at d2 wf2
      obtain ⟨v3, u3, s3, b3, hT⟩ := HA.out
      have l1 : (i : Int) < (l.length : Int) := by omega
      have HT := Hold.mk hT
      have HR1 := Hold.mk hr1
      have HNil := Hold.mk hnil
      have HW := Hold.mk wf1
      clear hkd hbb hnn hrw hnil hr1 wf1 wf2 hT
      go_wp2_with fail
      refine (step_calls base base m wr v3 u3 2000 s3 b3 HT.out kd nn A1 c1 bb HW.out HR1.out HNil.out).mono ?_
      rintro e w4 ⟨rfl, hf, v4, u4, s4, b4, hT4⟩
      have HF : Hold (Below base w w4) := ⟨HB.out.trans ⟨hf.os, hf.tape, hf.output, hf.size, fun k hk => hf.block k (Nat.lt_of_lt_of_le hk HT.out.size) (fun e => by have := (ours_ge HT.out e).1; omega)⟩⟩
      have HA4 : Hold (Alike base base m 2000 w4) := ⟨⟨_, _, _, _, hT4⟩⟩
      clear hf hT4
      go_wp2
      refine ⟨⟨i + 1, by omega, by go_num, HA4, HF⟩, by simp [intOf]; omega⟩
    · obtain rfl : i = l.length := by omega
      obtain ⟨v3, u3, s3, b3, hT⟩ := HA.out
      have HD3 := Hold.mk hT.d
      clear hT
      go_wp2_with fail
      refine (Disk.bytes_calls base base wr v3 2000 s3 b3 HD3.out).mono ?_
      rintro e w4 ⟨A4, c4, rfl, hn4, ho4, hb4⟩
      have hlc : b3.length ≤ c4 := by obtain ⟨_, _, e, hl⟩ := ho4.form; injection e with _ _ e; omega
      have HD4 := Hold.mk (HD3.out.below hb4)
      have HB4 := Hold.mk (HB.out.trans (hb4.mono (by have := HD3.out.lt; omega)))
      have HO4 := Hold.mk ho4
      have HLC := Hold.mk hlc
      clear hn4 ho4 hb4 hlc
      go_wp2_with fail
      refine (Disk.synced_calls base base w4 v3 2000 s3 b3 HD4.out).mono ?_
      rintro e w5 ⟨rfl, rfl⟩
      go_wp2_with fail
      refine (Disk.crash_calls base base w4 v3 2000 s3 b3 HD4.out keep (by have := HD4.out.lt; omega)).mono ?_
      rintro e w5 ⟨v5, rfl, hd5, hf5, hv5⟩
      obtain ⟨N, hN⟩ : ∃ N, crashN s3 b3.length keep = N := ⟨_, rfl⟩
      rw [hN] at hd5
      have hle : N ≤ b3.length := by have := HD4.out.ok; rw [← hN]; unfold crashN; omega
      obtain ⟨L, hL⟩ : ∃ L, b3.take N = L := ⟨_, rfl⟩
      have hLl : L.length = N := by rw [← hL, List.length_take]; omega
      rw [hL] at hd5
      have hr5 : Rep.Row (Rep.int .u8) (fun k => w.heap.size ≤ k) w5 A4 b3 := by
        refine HO4.out.row.move fun k hk hlt => ?_
        have hk := hk.resolve_left (fun h => h.elim)
        have := HO4.out.block_lt k hk
        have h1 := HD3.out.lt
        refine ⟨by have := HBase.out; omega, hf5.block k hlt ?_⟩
        rintro (e | e)
        · omega
        · have := HD3.out.own.block_lt k e; omega
      have HD5 := Hold.mk hd5
      have HB5 := Hold.mk (HB4.out.trans (fr_below HD4.out hf5))
      have HN := Hold.mk hN
      have HLe := Hold.mk hle
      have HL := Hold.mk hL
      have HLl := Hold.mk hLl
      have HR5 := Hold.mk hr5
      clear hd5 hf5 hv5 hN hle hL hLl hr5
      go_wp2_with fail
      refine (Disk.bytes_calls base base w5 v5 2000 N L HD5.out).mono ?_
      rintro e w6 ⟨A6, c6, rfl, hn6, ho6, hb6⟩
      have HD6 := Hold.mk (HD5.out.below hb6)
      have HB6 := Hold.mk (HB5.out.trans (hb6.mono (by have := HD5.out.lt; omega)))
      have q1 := fun k => Rep.row_string (P := Try.prog) (A := A6) (c := c6) Try.underlying22 Try.underlying5 Try.underlying9 (ho6.row.drewN k)
      have q2 := fun k => Rep.row_string (P := Try.prog) (A := A4) (c := c4) Try.underlying22 Try.underlying5 Try.underlying9 ((((HR5.out.below hb6).take N)).drewN k)
      rw [HL.out] at q2
      have s1 := fun W => Rep.run_cut_to (P := Try.prog) 22 5 .i64 Try.underlying22 size_u8 A4 b3.length c4 (N : Int) (by omega) (by have := HLC.out; have := HLe.out; omega) W
      have hok := HD4.out.ok
      have hNs : s3 ≤ (N : Int) := by rw [← HN.out]; unfold crashN; omega
      have t1 : decide ((N : Int) < s3) = false := decide_eq_false (by omega)
      have t2 : decide (b3.length < N) = false := decide_eq_false (by have := HLe.out; omega)
      have t3 : decide ((b3.length : Int) < s3) = false := decide_eq_false (by omega)
      have r1 : IntKind.i64.wrap ((b3.length : Int) - s3) = b3.length - s3 := by rw [IntKind.wrap_i64]; omega
      have r2 : IntKind.i64.wrap (2000 - (N : Int)) = 2000 - N := by have := HLe.out; rw [IntKind.wrap_i64]; omega
      rw [HLl.out] at q1 q2 ⊢
      clear hn6 ho6 hb6 hok hNs
      go_wp2
      go_quiet (fail)
      obtain ⟨w7, hw7⟩ : ∃ W, w6.drewN nq = W := ⟨_, rfl⟩
      have HD7 : Hold (DiskAt base base w7 v5 2000 N L) := ⟨by rw [← hw7]; exact HD6.out.keep rfl (fun _ _ => rfl)⟩
      have HB7 : Hold (Below base w w7) := ⟨by rw [← hw7]; exact HB6.out.trans ((below_drewN w6 nq).mono (by have := HD6.out.lt; omega))⟩
      rw [hw7]
      have hok := HD4.out.ok
      have hN := HN.out
      unfold crashN at hN
      clear hw7 q1 q2 s1 t1 t2 t3
      by_cases b0 : 0 < keep
      · have t4 := decide_eq_true b0
        by_cases b1 : keep < (b3.length : Int) - s3
        · have t5 := decide_eq_true b1
          have r3 : IntKind.i64.wrap (s3 + keep) = (N : Int) := by rw [IntKind.wrap_i64]; omega
          clear b0 b1 hN hok
          go_wp2_with fail
          refine (alive_calls w7).mono ?_
          rintro e w8 ⟨rfl, hb8⟩
          have HD8 := Hold.mk (HD7.out.below hb8)
          have HB8 := Hold.mk (HB7.out.trans (hb8.mono (by have := HD7.out.lt; omega)))
          clear hb8
          go_wp2_with fail
          refine (Disk.synced_calls base base w8 v5 2000 N L HD8.out).mono ?_
          rintro e w9 ⟨rfl, rfl⟩
          go_wp2_with fail
          refine (Disk.left_calls base base w8 v5 2000 N L HD8.out).mono ?_
          rintro e w9 ⟨rfl, k9, rfl⟩
          rw [HLl.out]
          go_wp2
          go_ret
          try rw [HBase.out]
          exact ⟨by simp, HB8.out.trans ((below_drewN w8 k9).mono (by have := HD8.out.lt; omega))⟩
        · have t5 := decide_eq_false b1
          have e1 : b3.length = N := by omega
          rw [e1] at t5 r1 ⊢
          clear b0 b1 hN hok e1
          go_wp2_with fail
          refine (alive_calls w7).mono ?_
          rintro e w8 ⟨rfl, hb8⟩
          have HD8 := Hold.mk (HD7.out.below hb8)
          have HB8 := Hold.mk (HB7.out.trans (hb8.mono (by have := HD7.out.lt; omega)))
          clear hb8
          go_wp2_with fail
          refine (Disk.synced_calls base base w8 v5 2000 N L HD8.out).mono ?_
          rintro e w9 ⟨rfl, rfl⟩
          go_wp2_with fail
          refine (Disk.left_calls base base w8 v5 2000 N L HD8.out).mono ?_
          rintro e w9 ⟨rfl, k9, rfl⟩
          rw [HLl.out]
          go_wp2
          go_ret
          try rw [HBase.out]
          exact ⟨by simp, HB8.out.trans ((below_drewN w8 k9).mono (by have := HD8.out.lt; omega))⟩
      · have t4 := decide_eq_false b0
        have e1 : s3 = (N : Int) := by omega
        rw [e1]
        clear b0 hN hok e1 r1
        go_wp2_with fail
        refine (alive_calls w7).mono ?_
        rintro e w8 ⟨rfl, hb8⟩
        have HD8 := Hold.mk (HD7.out.below hb8)
        have HB8 := Hold.mk (HB7.out.trans (hb8.mono (by have := HD7.out.lt; omega)))
        clear hb8
        go_wp2_with fail
        refine (Disk.synced_calls base base w8 v5 2000 N L HD8.out).mono ?_
        rintro e w9 ⟨rfl, rfl⟩
        go_wp2_with fail
        refine (Disk.left_calls base base w8 v5 2000 N L HD8.out).mono ?_
        rintro e w9 ⟨rfl, k9, rfl⟩
        rw [HLl.out]
        go_wp2
        go_ret
        try rw [HBase.out]
        exact ⟨by simp, HB8.out.trans ((below_drewN w8 k9).mono (by have := HD8.out.lt; omega))⟩
end Go.Proofs.Ytgeeicpjphdolaa.DiskLaw
