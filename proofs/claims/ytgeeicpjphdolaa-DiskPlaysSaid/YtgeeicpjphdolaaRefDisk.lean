/- The document's disk by its walks: a disk in memory (RefAt), and what each method leaves. -/
import Derived.Test.YtgeeicpjphdolaaDisk
namespace Go.Proofs.Ytgeeicpjphdolaa.RefDisk
open Go.RowKit Go.Proofs.Ytgeeicpjphdolaa.B
open Go.Proofs.Ytgeeicpjphdolaa.Disk (info_u8 blk_set crashN)

theorem size_u8 : (Try.prog.info? 5).map (·.size) = some 1 := by kernel_rfl

/-- The document's disk at block m: its bytes are read through u, in blocks of I. -/
structure RefAt (I : Nat → Prop) (m : Nat) (w : World) (u : Value) (room synced : Int) (bs : List Int) : Prop where
  block : w.heap[m]? = some (.cells #[.int .i64 room, u, .int .i64 synced] 43 (0, 0))
  row : ∃ A c, u = .slice A bs.length c ∧ (A = none → c = 0) ∧ bs.length ≤ c ∧ Rep.Row (Rep.int .u8) I w A bs
  ok : 0 ≤ synced ∧ synced ≤ bs.length ∧ (bs.length : Int) ≤ room ∧ room ≤ 16777216

section
variable {I J : Nat → Prop} {m : Nat} {w w' : World} {u : Value} {room synced : Int} {bs : List Int}
theorem RefAt.lt (h : RefAt I m w u room synced bs) : m < w.heap.size := (Array.getElem?_eq_some_iff.1 h.block).1
theorem RefAt.c0 (h : RefAt I m w u room synced bs) : w.cell? ⟨m, 0, none⟩ = some (.int .i64 room) := by simp [World.cell?, h.block]
theorem RefAt.c1 (h : RefAt I m w u room synced bs) : w.cell? ⟨m, 1, none⟩ = some u := by simp [World.cell?, h.block]
theorem RefAt.c2 (h : RefAt I m w u room synced bs) : w.cell? ⟨m, 2, none⟩ = some (.int .i64 synced) := by simp [World.cell?, h.block]
theorem RefAt.free (h : RefAt I m w u room synced bs) (i : Nat) : w.frozen? ⟨m, i, none⟩ = false := by simp [World.frozen?, h.block]
theorem RefAt.keep (h : RefAt I m w u room synced bs) (hg : w'.heap[m]? = w.heap[m]?) (hv : ∀ k, I k → k < w.heap.size → J k ∧ w'.heap[k]? = w.heap[k]?) : RefAt J m w' u room synced bs := by
  obtain ⟨A, c, h1, h2, h3, h4⟩ := h.row
  exact ⟨hg.trans h.block, ⟨A, c, h1, h2, h3, h4.move hv⟩, h.ok⟩
theorem RefAt.below (h : RefAt I m w u room synced bs) (hb : Below w.heap.size w w') : RefAt I m w' u room synced bs :=
  h.keep (hb.block m h.lt) (fun k hi hk => ⟨hi, hb.block k hk⟩)
end

section
variable (I : Nat → Prop) (m : Nat) (w : World) (u : Value) (room synced : Int) (bs : List Int)
set_option maxHeartbeats 1000000 in
theorem append_full (h : RefAt I m w u room synced bs) (A : Option Addr) (c n : Nat) (hn : (room - bs.length) < n) :
    Calls Try.prog 77 #[.pointer (some ⟨m, 0, none⟩), .slice A n c] w fun e w' => e = .returned (.int .i64 4) ∧ ∃ k, w' = w.drewN k := by
  obtain ⟨A0, cc, rfl, _, _, _⟩ := h.row
  have c0 := h.c0
  have c1 := h.c1
  have hok := h.ok
  have q1 : IntKind.i64.wrap (room - (bs.length : Int)) = room - bs.length := by rw [IntKind.wrap_i64]; omega
  have t1 := decide_eq_true hn
  clear h hn hok
  go_enter Try.func77, Try.ntmps77
  go_wp2
  go_quiet (fail)
  go_wp2
  go_ret
  exact ⟨rfl, _, rfl⟩
set_option maxHeartbeats 2000000 in
set_option maxRecDepth 100000 in
theorem append_room (h : RefAt I m w u room synced bs) (A : Option Addr) (c : Nat) (b : List Int) (J : Nat → Prop) (hn : (b.length : Int) ≤ room - bs.length) (hr : Rep.Row (Rep.int .u8) J w A b) (hnil : A = none → c = 0) :
    Calls Try.prog 77 #[.pointer (some ⟨m, 0, none⟩), .slice A b.length c] w fun e w' => ∃ u', e = .returned (.int .i64 0) ∧ RefAt (fun k => w.heap.size ≤ k) m w' u' room synced (bs ++ b) ∧ Fr (fun k => k = m) w w' := by
  obtain ⟨A0, cc, rfl, hn0, hcc, hrow⟩ := h.row
  have c0 := h.c0
  have c1 := h.c1
  have hok := h.ok
  have q1 : IntKind.i64.wrap (room - (bs.length : Int)) = room - bs.length := by rw [IntKind.wrap_i64]; omega
  have t1 : decide (room - bs.length < (b.length : Int)) = false := decide_eq_false (by omega)
  have H := Hold.mk h
  have HR := Hold.mk hr
  have HRow := Hold.mk hrow
  have HN := Hold.mk hn
  have HNil := Hold.mk hnil
  have HN0 := Hold.mk hn0
  have HOk := Hold.mk hok
  clear h hn hr hnil hn0 hrow hcc hok
  go_enter Try.func77, Try.ntmps77
  go_wp2
  go_quiet (fail)
  obtain ⟨w1, hw1⟩ : ∃ W, w.drewN nq = W := ⟨_, rfl⟩
  have h1 : RefAt I m w1 (.slice A0 bs.length cc) room synced bs := by rw [← hw1]; exact H.out.keep rfl (fun _ hi _ => ⟨hi, rfl⟩)
  have hr1 : Rep.Row (Rep.int .u8) J w1 A b := by rw [← hw1]; exact HR.out.drewN nq
  have hrow1 : Rep.Row (Rep.int .u8) I w1 A0 bs := by rw [← hw1]; exact HRow.out.drewN nq
  have hs1 : w1.heap.size = w.heap.size := by rw [← hw1]; rfl
  have hb1 : Below w.heap.size w w1 := by rw [← hw1]; exact ⟨rfl, rfl, rfl, Nat.le_refl _, fun _ _ => rfl⟩
  rw [hw1]
  clear hw1 c0 c1 q1
  have c1 := h1.c1
  have cz : (w1.alloc (.cells #[] 5)).cell? ⟨m, 1, none⟩ = some (.slice A0 bs.length cc) := (h1.below ((Below.refl _ _).alloc (Nat.le_refl _) _)).c1
  have H1 := Hold.mk h1
  have HR1 := Hold.mk hr1
  have HRow1 := Hold.mk hrow1
  have HS1 := Hold.mk hs1
  have HB1 := Hold.mk hb1
  clear h1 hr1 hrow1 hs1 hb1
  go_wp2_with (at_builtin; refine Rep.wp_append (Rep.int .u8) rfl (.tmp 19) (.tmp 23) 22 5 (.int .u8 0) 1 rfl Try.underlying22 info_u8 rfl (by decide) (by decide) w1.heap.size (I := nob) (J := fun k => I k ∧ k < w1.heap.size) (.slice (some ⟨w1.heap.size, 0, none⟩) 0 0) [] bs A0 bs.length cc rfl rfl rfl (Rep.Own.lit _ _ _ _ _ (Nat.le_refl _)) (HRow1.out.move fun k hk hlt => ⟨⟨hk, hlt⟩, Below.heap_alloc _ _ k hlt⟩) ?c1 HN0.out ?c2 ?c3 ?_)
  case c1 => intro k hk _ e; injection e with e; have : k = w1.heap.size := e; omega
  case c2 => simp
  case c3 => have := HOk.out; simp; omega
  intro v2 w2 hown2 hg2 hat2
  replace hown2 := hown2.flat nob (Rep.flat_int _)
  try rw [List.nil_append] at hown2
  have hb2 : Below w1.heap.size w1 w2 := ⟨hg2.os, hg2.tape, hg2.output, by have := hg2.size; simp at this; omega, fun k hk => (hg2.block k (by simp; omega) (by intro e; injection e with e; have : k = w1.heap.size := e; omega)).trans (Below.heap_alloc _ _ k hk)⟩
  have hrb2 : Rep.Row (Rep.int .u8) (fun k => J k ∧ k < w1.heap.size) w2 A b := HR1.out.move fun k hk hlt => ⟨⟨hk, hlt⟩, hb2.block k hlt⟩
  have HO2 := Hold.mk hown2
  have HB2 := Hold.mk hb2
  have HRB2 := Hold.mk hrb2
  have HM2 := Hold.mk (H1.out.below hb2)
  clear hown2 hg2 hat2 hb2 hrb2 c1 cz
  go_wp2_with (at_builtin; refine Rep.wp_append (Rep.int .u8) rfl (.tmp 25) (.tmp 26) 22 5 (.int .u8 0) 1 rfl Try.underlying22 info_u8 rfl (by decide) (by decide) w1.heap.size v2 bs b A b.length c rfl rfl rfl HO2.out HRB2.out ?d1 HNil.out ?d2 ?d3 ?_)
  case d1 => intro k hk _ e; have := HO2.out.block_lt k e.symm; omega
  case d2 => exact HB2.out.size
  case d3 => have := HOk.out; have := HN.out; omega
  intro v3 w3 hown3 hg3 hat3
  replace hown3 := hown3.flat nob (Rep.flat_int _)
  obtain ⟨L, hL⟩ : ∃ L, bs ++ b = L := ⟨_, rfl⟩
  rw [hL] at hown3
  have HL := Hold.mk hL
  obtain ⟨A3, c3, rfl, hc3⟩ := hown3.form
  have hm3 : w3.heap[m]? = w2.heap[m]? := hg3.block m HM2.out.lt (fun e => by have := HO2.out.block_lt m e.symm; have := H1.out.lt; omega)
  have hb3 : w3.heap[m]? = some (.cells #[.int .i64 room, .slice A0 bs.length cc, .int .i64 synced] 43 (0, 0)) := hm3.trans HM2.out.block
  have f3 : w3.frozen? ⟨m, 1, none⟩ = false := by simp [World.frozen?, hb3]
  have cc3 : w3.cell? ⟨m, 1, none⟩ = some (.slice A0 bs.length cc) := by simp [World.cell?, hb3]
  have hfr : Below w1.heap.size w1 w3 := ⟨hg3.os.trans HB2.out.os, hg3.tape.trans HB2.out.tape, hg3.output.trans HB2.out.output, Nat.le_trans HB2.out.size hg3.size, fun k hk => (hg3.block k (Nat.lt_of_lt_of_le hk HB2.out.size) (fun e => by have := HO2.out.block_lt k e.symm; omega)).trans (HB2.out.block k hk)⟩
  have HO3 := Hold.mk hown3
  have HC3 := Hold.mk hc3
  have HBlk3 := Hold.mk hb3
  have HF3 := Hold.mk hfr
  clear hL hown3 hg3 hat3 hc3 hm3 hb3 hfr
  go_wp2
  go_ret
  rw [HL.out]
  refine ⟨_, rfl, ⟨blk_set _ _ 1 _ HBlk3.out, ⟨A3, c3, rfl, HO3.out.cap_nil _ _ _ rfl, HC3.out, HO3.out.row.move fun k hk hlt => ?_⟩, ?_⟩, ?_⟩
  · have hk' : some k = (Value.slice A3 L.length c3).ownBlock := (hk.resolve_left (fun h => h.elim)).symm
    have hge := HO3.out.block_lt k hk'.symm
    have := HS1.out
    have := H1.out.lt
    exact ⟨by omega, Below.heap_setCell _ _ _ _ (by show k ≠ m; omega)⟩
  · have := HOk.out; have := HN.out; rw [← HL.out, List.length_append]; omega
  · exact ((Fr.of_below (fun k => k = m) HB1.out).trans (Fr.of_below (fun k => k = m) HF3.out) (fun _ _ h => h)).setCell (p := ⟨m, 1, none⟩) (.inl rfl) _
set_option maxHeartbeats 1000000 in
theorem cut_no (h : RefAt I m w u room synced bs) (n : Int) (hn : n < 0 ∨ (bs.length : Int) < n) :
    Calls Try.prog 79 #[.pointer (some ⟨m, 0, none⟩), .int .i64 n] w fun e w' => e = .returned (.int .i64 1) ∧ w = w' := by
  obtain ⟨A0, cc, rfl, _, _, _⟩ := h.row
  have c1 := h.c1
  clear h
  by_cases h1 : n < 0
  · have t1 := decide_eq_true h1
    clear h1 hn
    go_enter Try.func79, Try.ntmps79
    go_wp2
    go_ret
    exact ⟨rfl, rfl⟩
  · have t1 := decide_eq_false h1
    have t2 : decide ((bs.length : Int) < n) = true := decide_eq_true (by omega)
    clear h1 hn
    go_enter Try.func79, Try.ntmps79
    go_wp2
    go_ret
    exact ⟨rfl, rfl⟩
set_option maxHeartbeats 1000000 in
set_option maxRecDepth 100000 in
theorem cut_yes (h : RefAt I m w u room synced bs) (n : Nat) (hn : n ≤ bs.length) (hI : ¬ I m) :
    Calls Try.prog 79 #[.pointer (some ⟨m, 0, none⟩), .int .i64 (n : Int)] w fun e w' => ∃ u', e = .returned (.int .i64 0) ∧ RefAt I m w' u' room n (bs.take n) ∧ Fr (fun k => k = m) w w' := by
  obtain ⟨A0, cc, rfl, hn0, hcc, hrow⟩ := h.row
  have c1 := h.c1
  have cc2 := h.c2
  have f1 := h.free 1
  have f2 := h.free 2
  have s1 := fun W => Rep.run_cut_to (P := Try.prog) 22 5 .i64 Try.underlying22 size_u8 A0 bs.length cc (n : Int) (by omega) (by omega) W
  have t2 : decide (bs.length < n) = false := decide_eq_false (by omega)
  have t3 : decide ((n : Int) < 0) = false := decide_eq_false (by omega)
  have H := Hold.mk h
  have HN := Hold.mk hn
  have HI := Hold.mk hI
  have HC := Hold.mk (And.intro hn0 (And.intro hcc hrow))
  clear h hn hI hn0 hcc hrow
  go_enter Try.func79, Try.ntmps79
  go_wp2
  go_ret
  have hl : (bs.take n).length = n := by rw [List.length_take]; have := HN.out; omega
  refine ⟨_, rfl, ⟨blk_set _ _ 2 _ (blk_set _ _ 1 _ H.out.block), ⟨A0, cc, by rw [hl], HC.out.1, by have := HC.out.2.1; have := HN.out; omega, ?_⟩, ?_⟩, (((Fr.refl (fun k => k = m) w).setCell (p := ⟨m, 1, none⟩) (.inl rfl) _).setCell (p := ⟨m, 2, none⟩) (.inl rfl) _)⟩
  · refine (HC.out.2.2.take n).move fun k hk _ => ⟨hk, ?_⟩
    have : k ≠ m := fun e => HI.out (e ▸ hk)
    exact (Below.heap_setCell _ _ _ _ this).trans (Below.heap_setCell _ _ _ _ this)
  · have := H.out.ok; have := HN.out; rw [hl]; omega
set_option maxHeartbeats 2000000 in
set_option maxRecDepth 100000 in
theorem crash_calls (h : RefAt I m w u room synced bs) (keep : Int) (hI : ¬ I m) :
    Calls Try.prog 78 #[.pointer (some ⟨m, 0, none⟩), .int .i64 keep] w fun e w' => ∃ u', e = .returned (.tuple #[]) ∧ RefAt I m w' u' room (crashN synced bs.length keep) (bs.take (crashN synced bs.length keep)) ∧ Fr (fun k => k = m) w w' := by
  obtain ⟨A0, cc, rfl, hn0, hcc, hrow⟩ := h.row
  have c1 := h.c1
  have cc2 := h.c2
  have hok := h.ok
  have q1 : IntKind.i64.wrap ((bs.length : Int) - synced) = bs.length - synced := by rw [IntKind.wrap_i64]; omega
  obtain ⟨N, hN⟩ : ∃ N, crashN synced bs.length keep = N := ⟨_, rfl⟩
  have hle : N ≤ bs.length := by rw [← hN]; unfold crashN; omega
  have hl : (bs.take N).length = N := by rw [List.length_take]; omega
  have s1 := fun W => Rep.run_cut_to (P := Try.prog) 22 5 .i64 Try.underlying22 size_u8 A0 bs.length cc (N : Int) (by omega) (by omega) W
  have fin : ∀ nq : Nat, ∀ W, W = ((w.drewN nq).setCell ⟨m, 1, none⟩ (.slice A0 N cc)).setCell ⟨m, 2, none⟩ (.int .i64 (N : Int)) → RefAt I m W (.slice A0 N cc) room N (bs.take N) ∧ Fr (fun k => k = m) w W := by
    rintro nq W rfl
    refine ⟨⟨blk_set _ _ 2 _ (blk_set _ _ 1 _ h.block), ⟨A0, cc, by rw [hl], hn0, by omega, ?_⟩, by rw [hl]; omega⟩, (((Fr.refl (fun k => k = m) w).drewN nq).setCell (p := ⟨m, 1, none⟩) (.inl rfl) _).setCell (p := ⟨m, 2, none⟩) (.inl rfl) _⟩
    refine (hrow.take N).move fun k hk _ => ⟨hk, ?_⟩
    have : k ≠ m := fun e => hI (e ▸ hk)
    exact (Below.heap_setCell _ _ _ _ this).trans (Below.heap_setCell _ _ _ _ this)
  have f1 := h.free 1
  have f2 := h.free 2
  have HN := Hold.mk hN
  have HF := Hold.mk fin
  by_cases hk : keep < (bs.length : Int) - synced
  · have t1 := decide_eq_true hk
    by_cases hk0 : keep < 0
    · have q2 : IntKind.i64.wrap synced = (N : Int) := by rw [IntKind.wrap_i64, ← hN]; unfold crashN; omega
      clear h hok hI hn0 hcc hrow fin hN hl hle hk
      go_enter Try.func78, Try.ntmps78
      go_wp2
      go_quiet (fail)
      obtain ⟨w1, hw1⟩ : ∃ W, w.drewN nq = W := ⟨_, rfl⟩
      replace c1 : w1.cell? ⟨m, 1, none⟩ = some (.slice A0 bs.length cc) := by rw [← hw1]; exact c1
      replace cc2 : w1.cell? ⟨m, 2, none⟩ = some (.int .i64 synced) := by rw [← hw1]; exact cc2
      replace f1 : w1.drew.frozen? ⟨m, 1, none⟩ = false := by rw [← hw1]; exact f1
      replace f2 : w1.drew.frozen? ⟨m, 2, none⟩ = false := by rw [← hw1]; exact f2
      rw [hw1]
      have HW := Hold.mk hw1
      clear hw1
      go_wp2_with fail
      go_still_tail 14, (by kernel_rfl)
      change wpList _ _ _ _ _ w1.drew
      obtain ⟨w2, hw2⟩ : ∃ W, w1.drew = W := ⟨_, rfl⟩
      replace c1 : w2.cell? ⟨m, 1, none⟩ = some (.slice A0 bs.length cc) := by rw [← hw2]; exact c1
      replace cc2 : w2.cell? ⟨m, 2, none⟩ = some (.int .i64 synced) := by rw [← hw2]; exact cc2
      rw [hw2] at f1 f2 ⊢
      have HW2 := Hold.mk (show w2 = w.drewN (nq + 1) by rw [← hw2, ← HW.out]; rfl)
      clear hw2
      go_wp2
      go_end0
      rw [HN.out]
      exact ⟨_, rfl, HF.out (nq + 1) _ (by rw [HW2.out])⟩
    · have q2 : IntKind.i64.wrap (synced + keep) = (N : Int) := by rw [IntKind.wrap_i64, ← hN]; unfold crashN; omega
      clear h hok hI hn0 hcc hrow fin hN hl hle hk
      go_enter Try.func78, Try.ntmps78
      go_wp2
      go_quiet (fail)
      obtain ⟨w1, hw1⟩ : ∃ W, w.drewN nq = W := ⟨_, rfl⟩
      replace c1 : w1.cell? ⟨m, 1, none⟩ = some (.slice A0 bs.length cc) := by rw [← hw1]; exact c1
      replace cc2 : w1.cell? ⟨m, 2, none⟩ = some (.int .i64 synced) := by rw [← hw1]; exact cc2
      replace f1 : w1.drew.frozen? ⟨m, 1, none⟩ = false := by rw [← hw1]; exact f1
      replace f2 : w1.drew.frozen? ⟨m, 2, none⟩ = false := by rw [← hw1]; exact f2
      rw [hw1]
      have HW := Hold.mk hw1
      clear hw1
      go_wp2_with fail
      go_still_tail 14, (by kernel_rfl)
      change wpList _ _ _ _ _ w1.drew
      obtain ⟨w2, hw2⟩ : ∃ W, w1.drew = W := ⟨_, rfl⟩
      replace c1 : w2.cell? ⟨m, 1, none⟩ = some (.slice A0 bs.length cc) := by rw [← hw2]; exact c1
      replace cc2 : w2.cell? ⟨m, 2, none⟩ = some (.int .i64 synced) := by rw [← hw2]; exact cc2
      rw [hw2] at f1 f2 ⊢
      have HW2 := Hold.mk (show w2 = w.drewN (nq + 1) by rw [← hw2, ← HW.out]; rfl)
      clear hw2
      go_wp2
      go_end0
      rw [HN.out]
      exact ⟨_, rfl, HF.out (nq + 1) _ (by rw [HW2.out])⟩
  · have t1 := decide_eq_false hk
    have q2 : IntKind.i64.wrap (synced + ((bs.length : Int) - synced)) = (N : Int) := by
      rw [IntKind.wrap_i64, ← hN]; unfold crashN; omega
    clear h hok hI hn0 hcc hrow fin hN hl hle hk
    go_enter Try.func78, Try.ntmps78
    go_wp2
    go_quiet (fail)
    obtain ⟨w1, hw1⟩ : ∃ W, w.drewN nq = W := ⟨_, rfl⟩
    replace c1 : w1.cell? ⟨m, 1, none⟩ = some (.slice A0 bs.length cc) := by rw [← hw1]; exact c1
    replace cc2 : w1.cell? ⟨m, 2, none⟩ = some (.int .i64 synced) := by rw [← hw1]; exact cc2
    replace f1 : w1.drew.frozen? ⟨m, 1, none⟩ = false := by rw [← hw1]; exact f1
    replace f2 : w1.drew.frozen? ⟨m, 2, none⟩ = false := by rw [← hw1]; exact f2
    rw [hw1]
    have HW := Hold.mk hw1
    clear hw1
    go_wp2_with fail
    go_still_tail 14, (by kernel_rfl)
    change wpList _ _ _ _ _ w1.drew
    obtain ⟨w2, hw2⟩ : ∃ W, w1.drew = W := ⟨_, rfl⟩
    replace c1 : w2.cell? ⟨m, 1, none⟩ = some (.slice A0 bs.length cc) := by rw [← hw2]; exact c1
    replace cc2 : w2.cell? ⟨m, 2, none⟩ = some (.int .i64 synced) := by rw [← hw2]; exact cc2
    rw [hw2] at f1 f2 ⊢
    have HW2 := Hold.mk (show w2 = w.drewN (nq + 1) by rw [← hw2, ← HW.out]; rfl)
    clear hw2
    go_wp2
    go_end0
    rw [HN.out]
    exact ⟨_, rfl, HF.out (nq + 1) _ (by rw [HW2.out])⟩
end
end Go.Proofs.Ytgeeicpjphdolaa.RefDisk
