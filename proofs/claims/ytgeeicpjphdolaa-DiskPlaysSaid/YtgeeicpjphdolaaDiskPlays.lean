/- DiskPlays by its walk; no condition but that its input is read. -/
import Derived.Test.YtgeeicpjphdolaaDiskSafe
import Derived.Deep.RegionHeldLaw
namespace Go.Proofs.Ytgeeicpjphdolaa.DiskLaw
open Go.RowKit Go.Proofs.Ytgeeicpjphdolaa.B
open Go.Proofs.Ytgeeicpjphdolaa.Disk (DiskAt crashN mine info_u8)
open Go.Proofs.Ytgeeicpjphdolaa.RefDisk (RefAt size_u8)

theorem right_no (room : Int) (w : World) (h : room < 0 ∨ 16777216 < room) : Calls Try.prog 31 #[.int .i64 room] w fun e w' => e = .returned (.bool false) ∧ w = w' := by
  by_cases h0 : 0 ≤ room
  · have h1 : ¬ room ≤ 16777216 := by omega
    clear h
    go_enter Try.func31, Try.ntmps31
    go_wp2
    go_ret
    exact ⟨by simp <;> omega, rfl⟩
  · clear h
    go_enter Try.func31, Try.ntmps31
    go_wp2
    go_ret
    exact ⟨by simp <;> omega, rfl⟩
theorem right_yes (room : Int) (w : World) (h : 0 ≤ room) (h1 : room ≤ 16777216) : Calls Try.prog 31 #[.int .i64 room] w fun e w' => e = .returned (.bool true) ∧ w = w' := by
  go_enter Try.func31, Try.ntmps31
  go_wp2
  go_ret
  exact ⟨by simp <;> omega, rfl⟩

set_option maxRecDepth 100000 in
set_option maxHeartbeats 4000000 in
theorem plays_law (room : Int) (A : Option Addr) (c : Nat) (l : List ActD) (w : World) (_hk : (Lit.int .i64 room).wf = true) (hl : l.length ≤ c) (_hn : A = none → c = 0) (hr : Rep.Row actRep (fun _ => True) w A l) :
    Calls Try.prog 7 #[.int .i64 room, .slice A l.length c] w fun e w' => e = .returned (.bool true) ∧ Below w.heap.size w w' := by
  obtain ⟨base, hbase⟩ : ∃ b, w.heap.size = b := ⟨_, rfl⟩
  have hr0 : Rep.Row actRep (fun k => k < base) w A l := hr.move fun k _ hlt => ⟨by omega, rfl⟩
  have hm := hr0.len_le
  have HR := Hold.mk hr0
  have HBase := Hold.mk hbase
  clear hr hr0 hbase hl
  go_enter Try.func7, Try.ntmps7
  go_wp2_with fail
  refine (fits_calls A c l _ w HR.out).mono ?_
  rintro e w' ⟨fit, rfl, rfl⟩
  cases fit
  · go_wp2_with fail
    refine (alive_calls w).mono ?_
    rintro e w1 ⟨rfl, hb⟩
    have HB := Hold.mk hb
    clear hb
    go_wp2
    go_ret
    exact ⟨rfl, HB.out⟩
  by_cases hroom : room < 0 ∨ 16777216 < room
  · have HRoom := Hold.mk hroom
    clear hroom
    go_wp2_with (first
      | (go_at_call 25; refine (Disk.new_no room w HRoom.out).mono ?_; rintro e w' ⟨rfl, rfl⟩)
      | (go_at_call 31; refine (right_no room w HRoom.out).mono ?_; rintro e w' ⟨rfl, rfl⟩)
      | (go_at_call 32; refine (Disk.sync_nil w).mono ?_; rintro e w' ⟨rfl, rfl⟩)
      | (go_at_call 29; refine (Disk.crash_nil w _).mono ?_; rintro e w' ⟨rfl, rfl⟩)
      | (go_at_call 33; refine (Disk.append_nil w _).mono ?_; rintro e w' ⟨rfl, rfl⟩)
      | (go_at_call 34; refine (Disk.cut_nil w _).mono ?_; rintro e w' ⟨rfl, rfl⟩)
      | (go_at_call 27; refine (Disk.bytes_nil w).mono ?_; rintro e w' ⟨rfl, rfl⟩)
      | (go_at_call 28; refine (Disk.synced_nil w).mono ?_; rintro e w' ⟨rfl, rfl⟩)
      | (go_at_call 30; refine (Disk.left_nil w).mono ?_; rintro e w' ⟨rfl, rfl⟩)
      | (go_at_call 35; refine (Disk.clone_nil w).mono ?_; rintro e w' ⟨rfl, rfl⟩)
      | (go_at_call 24; refine (alive_calls w).mono ?_; rintro e w1 ⟨rfl, hb⟩; have HB := Hold.mk hb; clear hb))
    go_ret
    exact ⟨rfl, HB.out⟩
  have h0 : 0 ≤ room := by omega
  have h1 : room ≤ 16777216 := by omega
  have H0 := Hold.mk h0
  have H1 := Hold.mk h1
  clear hroom h0 h1
  go_wp2_with fail
  refine (Disk.new_yes room base w H0.out H1.out (by have := HBase.out; omega)).mono ?_
  rintro e w1 ⟨rfl, hb1, hd1⟩
  rw [HBase.out] at hb1 hd1 ⊢
  have hT1 := ref_new base base w1 room hd1 ⟨H0.out, H1.out⟩
  obtain ⟨m, hm1⟩ : ∃ m, w1.heap.size = m := ⟨_, rfl⟩
  have hle : base ≤ w1.heap.size := Nat.le_of_lt hd1.lt
  rw [hm1] at hT1
  have HA1 : Hold (Alike base base m room (w1.alloc (.cells #[.int .i64 room, .slice none 0 0, .int .i64 0] 43 (0, 0)))) := ⟨⟨_, _, _, _, hT1⟩⟩
  have HB1 := Hold.mk (hb1.alloc hle (.cells #[.int .i64 room, .slice none 0 0, .int .i64 0] 43 (0, 0)))
  clear hb1 hd1 hT1 hle
  go_wp2_with (first
      | (go_at_call 31; refine (right_yes room w1 H0.out H1.out).mono ?_; rintro e w' ⟨rfl, rfl⟩)
      | (go_at_call 32; refine (Disk.sync_nil w1).mono ?_; rintro e w' ⟨rfl, rfl⟩)
      | (go_at_call 29; refine (Disk.crash_nil w1 _).mono ?_; rintro e w' ⟨rfl, rfl⟩)
      | (go_at_call 33; refine (Disk.append_nil w1 _).mono ?_; rintro e w' ⟨rfl, rfl⟩)
      | (go_at_call 34; refine (Disk.cut_nil w1 _).mono ?_; rintro e w' ⟨rfl, rfl⟩)
      | (go_at_call 27; refine (Disk.bytes_nil w1).mono ?_; rintro e w' ⟨rfl, rfl⟩)
      | (go_at_call 28; refine (Disk.synced_nil w1).mono ?_; rintro e w' ⟨rfl, rfl⟩)
      | (go_at_call 30; refine (Disk.left_nil w1).mono ?_; rintro e w' ⟨rfl, rfl⟩)
      | (go_at_call 35; refine (Disk.clone_nil w1).mono ?_; rintro e w' ⟨rfl, rfl⟩))
  clear hm1
  go_loopw [11] (fun v wr => ∃ i : Nat, i ≤ l.length ∧ v = .int .i64 (i : Int) ∧ Hold (Alike base base m room wr) ∧ Hold (Below base w wr)) (fun v _ => l.length - (intOf v).toNat)
  case atStart => exact ⟨0, by omega, rfl, HA1, HB1⟩
  case round =>
    obtain ⟨i, hi, rfl, HA, HB⟩ := hrel
    by_cases hlt : i < l.length
    · obtain ⟨v3, u3, s3, b3, hT⟩ := HA.out
      have HT := Hold.mk hT
      have l1 : (i : Int) < (l.length : Int) := by omega
      clear hT
      go_wp2_with fail
      refine (Disk.clone_calls base base wr v3 room s3 b3 HT.out.d).mono ?_
      rintro e w2 ⟨g2, v2, rfl, hd2, hb2⟩
      have hT2 := HT.out.below hb2
      obtain ⟨Au, cu, hu, hnu, hcu, hru⟩ := hT2.r.row
      have m1 : w2.cell? ⟨m, 1, none⟩ = some (.slice Au b3.length cu) := by rw [hT2.r.c1, hu]
      have m1' : (w2.alloc (.cells #[] 5)).cell? ⟨m, 1, none⟩ = some (.slice Au b3.length cu) := (((Below.refl _ w2).alloc (Nat.le_refl _) _).cell (p := ⟨m, 1, none⟩) hT2.r.lt).trans m1
      have HD2 := Hold.mk hd2
      have HB2 := Hold.mk hb2
      have HT2 := Hold.mk hT2
      have HU := Hold.mk hnu
      have HRu := Hold.mk hru
      clear hd2 hb2 hT2 hu hnu hcu hru
      go_wp2_with (at_builtin; refine Rep.wp_append (Rep.int .u8) rfl (.tmp 85) (.tmp 89) 22 5 (.int .u8 0) 1 rfl Try.underlying22 info_u8 rfl (by decide) (by decide) w2.heap.size (I := nob) (J := fun k => k < w2.heap.size) (.slice (some ⟨w2.heap.size, 0, none⟩) 0 0) [] b3 Au b3.length cu rfl rfl rfl (Rep.Own.lit _ _ _ _ _ (Nat.le_refl _)) (HRu.out.move fun k hk hlt => ⟨hlt, Below.heap_alloc _ _ k hlt⟩) ?c1 HU.out ?c2 ?c3 ?_)
      case c1 => intro k hk _ e; injection e with e; have : k = w2.heap.size := e; have hk : k < w2.heap.size := hk; omega
      case c2 => simp
      case c3 => have := HT.out.d.ok; simp; omega
      intro v5 w5 hown5 hg5 hat5
      replace hown5 := hown5.flat nob (Rep.flat_int _)
      have hb5 : Below w2.heap.size w2 w5 := ⟨hg5.os, hg5.tape, hg5.output, by have := hg5.size; simp at this; omega, fun k hk => (hg5.block k (by simp; omega) (by intro e; injection e with e; have : k = w2.heap.size := e; omega)).trans (Below.heap_alloc _ _ k hk)⟩
      obtain ⟨A5, c5, rfl, _⟩ := hown5.form
      have hT5 := HT2.out.below hb5
      have hd5 := HD2.out.below hb5
      have k2 := hT5.r.c2
      have hsz2 : wr.heap.size ≤ w2.heap.size := HB2.out.size
      have HT5 := Hold.mk hT5
      have HD5 := Hold.mk hd5
      have HO5 := Hold.mk hown5
      have HB5 := Hold.mk (HB2.out.trans (hb5.mono hsz2))
      have HS2 := Hold.mk hsz2
      have hrw : Rep.Row actRep (fun k => k < base) w5 A l := HR.out.move fun k hk _ => ⟨hk, ((hb5.mono hsz2).block k (Nat.lt_of_lt_of_le hk HT.out.size)).trans ((HB2.out.block k (Nat.lt_of_lt_of_le hk HT.out.size)).trans (HB.out.block k hk))⟩
      obtain ⟨ad, p, A1, c1, rfl, hp, d0, d1, d2, _, hnil, hr1, wf1, wf2⟩ := row_act hrw i hlt
      obtain ⟨kd, hkd⟩ : ∃ x, l[i].1 = x := ⟨_, rfl⟩
      obtain ⟨bb, hbb⟩ : ∃ x, l[i].2.1 = x := ⟨_, rfl⟩
      obtain ⟨nn, hnn⟩ : ∃ x, l[i].2.2.1 = x := ⟨_, rfl⟩
      rw [hkd] at d0 wf1
      rw [hbb] at d1 hr1
      rw [hnn] at d2 wf2
      have HR1 := Hold.mk hr1
      have HNil := Hold.mk hnil
      have HW := Hold.mk wf1
      clear hkd hbb hnn hrw hnil hr1 wf1 wf2 hT5 hd5 hown5 hg5 hat5 hb5 hsz2 m1 m1'
      go_wp2_with fail
      refine (step_calls base base m w5 v3 u3 room s3 b3 HT5.out kd nn A1 c1 bb HW.out HR1.out HNil.out).mono ?_
      rintro e w6 ⟨rfl, hf, v6, u6, s6, b6, hT6⟩
      have hgo : ∀ k, wr.heap.size ≤ k → k < w5.heap.size → w6.heap[k]? = w5.heap[k]? := fun k hk hlt => hf.block k hlt (fun h => by have := (ours_ge HT.out h).2; omega)
      have hd6 : DiskAt wr.heap.size g2 w6 v2 room s3 b3 := HD5.out.keep (hgo _ HD5.out.ge HD5.out.lt) (fun k hk => hgo k (HD5.out.own.block_lt k hk).1 (HD5.out.own.block_lt k hk).2)
      have hr6 : Rep.Row (Rep.int .u8) (fun _ => True) w6 A5 b3 := HO5.out.row.move fun k hk hlt => by
        have hk := HO5.out.block_lt k (hk.resolve_left (fun h => h.elim))
        exact ⟨trivial, hgo k (by have := HS2.out; omega) hlt⟩
      have HT6 := Hold.mk hT6
      have HD6 := Hold.mk hd6
      have HR6 := Hold.mk hr6
      have HB6 : Hold (Below base w w6) := ⟨(HB.out.trans (HB5.out.mono HT.out.size)).trans ⟨hf.os, hf.tape, hf.output, hf.size, fun k hk => hf.block k (Nat.lt_of_lt_of_le hk HT5.out.size) (fun e => by have := (ours_ge HT.out e).1; omega)⟩⟩
      have qm6 := Rep.row_string (P := Try.prog) (A := A5) (c := c5) Try.underlying22 Try.underlying5 Try.underlying9 hr6.drew
      clear hf hgo hd6 hr6 hT6 d0 d1 d2 k2 hp
      go_wp2_with fail
      go_region_held_law (fun w' => (Go.convert 22 9 (.slice A5 b3.length c5)).run Try.prog w' = .ok (.string (strOfNums b3)) w') (first | exact qm6 | exact qm7) (first | (go_at_call 27; (refine (Disk.bytes_calls wr.heap.size g2 w6.drew v2 room s3 b3 (HD6.out.keep rfl (fun _ _ => rfl))).mono ?_); rintro e w7 ⟨A7, c7, rfl, hn7, hown7, hb7⟩; have HD7 := Hold.mk (HD6.out.below ((below_drewN w6 1).trans hb7)); have qb := Rep.row_string (P := Try.prog) (A := A7) (c := c7) Try.underlying22 Try.underlying5 Try.underlying9 hown7.row; have qm7 := Rep.row_string (P := Try.prog) (A := A5) (c := c5) Try.underlying22 Try.underlying5 Try.underlying9 (HR6.out.below ((below_drewN w6 1).trans hb7)); have HB7 := Hold.mk ((below_drewN w6 1).trans hb7); clear hb7 hown7 hn7) | (go_at_call 28; (refine (Disk.synced_calls wr.heap.size g2 w7 v2 room s3 b3 HD7.out).mono ?_); rintro e w8 ⟨rfl, rfl⟩))
      go_wp2
      have HA7 : Hold (Alike base base m room w7) := ⟨⟨_, _, _, _, HT6.out.below HB7.out⟩⟩
      have HBB : Hold (Below base w w7) := ⟨HB6.out.trans (HB7.out.mono HT6.out.size)⟩
      refine ⟨⟨i + 1, by omega, by go_num, HA7, HBB⟩, by simp [intOf]; omega⟩
    · obtain rfl : i = l.length := by omega
      go_wp2_with fail
      refine (alive_calls wr).mono ?_
      rintro e w4 ⟨rfl, hb4⟩
      obtain ⟨v3, u3, s3, b3, hT⟩ := HA.out
      have HB4 := Hold.mk (HB.out.trans (hb4.mono hT.size))
      clear hb4 hT
      go_wp2
      go_ret
      try rw [HBase.out]
      exact ⟨rfl, HB4.out⟩
end Go.Proofs.Ytgeeicpjphdolaa.DiskLaw
