/- Package disk by its walks: a disk in memory (DiskAt), and what each method leaves; no condition but that. -/
import Derived.Test.YtgeeicpjphdolaaClone
import Derived.Deep.RegionHeld3
import Derived.Laws.CopyOwn
import Derived.StillTailTactics
namespace Go.Proofs.Ytgeeicpjphdolaa.Disk
open Go.RowKit Go.Proofs.Ytgeeicpjphdolaa.B

theorem info_u8 : (Try.prog.info? 5).map (fun i => (i.zero, i.size, i.bytes)) = some (some (.int .u8 0), 1, 1) := by kernel_rfl

/-- A disk in memory: its struct at block g, its bytes in a row of its own (value v), from block 'base' on. -/
structure DiskAt (base g : Nat) (w : World) (v : Value) (room synced : Int) (bs : List Int) : Prop where
  block : w.heap[g]? = some (.cells #[.int .i64 room, .int .i64 synced, v] 94 (0, 0))
  own : Rep.Own (Rep.int .u8) 5 base nob w v bs
  ge : base ≤ g
  ok : 0 ≤ synced ∧ synced ≤ bs.length ∧ (bs.length : Int) ≤ room ∧ room ≤ 16777216

section
variable {base g : Nat} {w w' : World} {v : Value} {room synced : Int} {bs : List Int}
theorem DiskAt.lt (h : DiskAt base g w v room synced bs) : g < w.heap.size := (Array.getElem?_eq_some_iff.1 h.block).1
theorem DiskAt.c0 (h : DiskAt base g w v room synced bs) : w.cell? ⟨g, 0, none⟩ = some (.int .i64 room) := by simp [World.cell?, h.block]
theorem DiskAt.c1 (h : DiskAt base g w v room synced bs) : w.cell? ⟨g, 1, none⟩ = some (.int .i64 synced) := by simp [World.cell?, h.block]
theorem DiskAt.c2 (h : DiskAt base g w v room synced bs) : w.cell? ⟨g, 2, none⟩ = some v := by simp [World.cell?, h.block]
theorem DiskAt.free (h : DiskAt base g w v room synced bs) (i : Nat) : w.frozen? ⟨g, i, none⟩ = false := by simp [World.frozen?, h.block]
theorem DiskAt.keep (h : DiskAt base g w v room synced bs) (hg : w'.heap[g]? = w.heap[g]?) (hv : ∀ k, v.ownBlock = some k → w'.heap[k]? = w.heap[k]?) : DiskAt base g w' v room synced bs :=
  ⟨hg.trans h.block, h.own.move hv (fun _ hi _ _ => hi.elim), h.ge, h.ok⟩
theorem DiskAt.below (h : DiskAt base g w v room synced bs) (hb : Below w.heap.size w w') : DiskAt base g w' v room synced bs :=
  h.keep (hb.block g h.lt) (fun k hk => hb.block k (h.own.block_lt k hk).2)
/-- The bytes' row is not the struct's block. -/
theorem DiskAt.apart (h : DiskAt base g w v room synced bs) : v.ownBlock ≠ some g := by
  intro he
  obtain ⟨cells, ho, _⟩ := h.own
  rcases ho.2 with ⟨rfl, _⟩ | ⟨g', cap, cur, rfl, _, hh, _⟩
  · cases he
  · injection he with he
    have he : g' = g := he
    subst he
    rw [h.block] at hh
    injection hh with hh
    injection hh with _ hh
    exact absurd hh (by decide)
end

/-- What may have turned: the disk's own two blocks. -/
def mine (g : Nat) (v : Value) : Nat → Prop := fun k => k = g ∨ v.ownBlock = some k

set_option maxHeartbeats 1000000 in
theorem new_no (room : Int) (w : World) (h : room < 0 ∨ 16777216 < room) :
    Calls Try.prog 25 #[.int .i64 room] w fun e w' => e = .returned (.tuple #[.pointer none, .int .i64 1]) ∧ w = w' := by
  by_cases h1 : room < 0
  · have t1 := decide_eq_true h1
    clear h1 h
    go_enter Try.func25, Try.ntmps25
    go_wp2
    go_ret2
    exact ⟨rfl, rfl⟩
  · have t1 := decide_eq_false h1
    have t2 : decide (16777216 < room) = true := decide_eq_true (by omega)
    clear h1 h
    go_enter Try.func25, Try.ntmps25
    go_wp2
    go_ret2
    exact ⟨rfl, rfl⟩
set_option maxHeartbeats 1000000 in
theorem new_yes (room : Int) (base : Nat) (w : World) (h : 0 ≤ room) (h2 : room ≤ 16777216) (hb : base ≤ w.heap.size) :
    Calls Try.prog 25 #[.int .i64 room] w fun e w' => e = .returned (.tuple #[.pointer (some ⟨w.heap.size, 0, none⟩), .int .i64 0]) ∧ Below w.heap.size w w' ∧ DiskAt base w.heap.size w' (.slice none 0 0) room 0 [] := by
  have t1 : decide (room < 0) = false := decide_eq_false (by omega)
  have t2 : decide (16777216 < room) = false := decide_eq_false (by omega)
  have H := Hold.mk h
  have H2 := Hold.mk h2
  clear h h2
  go_enter Try.func25, Try.ntmps25
  go_wp2
  go_ret2
  refine ⟨rfl, (Below.refl _ _).alloc (Nat.le_refl _) _, ⟨?_, Rep.Own.nil _ _ _ _ _, hb, by simp, by simp, by simpa using H.out, H2.out⟩⟩
  show (w.heap.push _)[w.heap.size]? = _
  simp

section
variable (base g : Nat) (w : World) (v : Value) (room synced : Int) (bs : List Int)
theorem blk_set (i : Nat) (u : Value) {cs : Array Value} {t : TypeId} (h : w.heap[g]? = some (.cells cs t (0, 0))) : (w.setCell ⟨g, i, none⟩ u).heap[g]? = some (.cells (cs.setIfInBounds i u) t (0, 0)) := heap_setCell_same w g i cs t u h
set_option maxHeartbeats 1000000 in
theorem left_calls (h : DiskAt base g w v room synced bs) :
    Calls Try.prog 30 #[.pointer (some ⟨g, 0, none⟩)] w fun e w' => e = .returned (.int .i64 (room - bs.length)) ∧ ∃ n, w' = w.drewN n := by
  obtain ⟨A, c, rfl, _⟩ := h.own.form
  have c0 := h.c0
  have c2 := h.c2
  have o := h.ok
  have hw : IntKind.i64.wrap (room - bs.length) = room - bs.length := by rw [IntKind.wrap_i64]; omega
  clear o h
  go_enter Try.func30, Try.ntmps30
  go_wp2
  go_quiet (fail)
  go_wp2
  go_ret
  exact ⟨rfl, _, rfl⟩
theorem left_nil : Calls Try.prog 30 #[.pointer none] w fun e w' => e = .returned (.int .i64 0) ∧ w = w' := by
  go_enter Try.func30, Try.ntmps30
  go_wp2
  go_ret
  exact ⟨rfl, rfl⟩
theorem synced_calls (h : DiskAt base g w v room synced bs) :
    Calls Try.prog 28 #[.pointer (some ⟨g, 0, none⟩)] w fun e w' => e = .returned (.int .i64 synced) ∧ w = w' := by
  have c1 := h.c1
  clear h
  go_enter Try.func28, Try.ntmps28
  go_wp2
  go_ret
  exact ⟨rfl, rfl⟩
theorem synced_nil : Calls Try.prog 28 #[.pointer none] w fun e w' => e = .returned (.int .i64 0) ∧ w = w' := by
  go_enter Try.func28, Try.ntmps28
  go_wp2
  go_ret
  exact ⟨rfl, rfl⟩
set_option maxHeartbeats 1000000 in
theorem sync_calls (h : DiskAt base g w v room synced bs) :
    Calls Try.prog 32 #[.pointer (some ⟨g, 0, none⟩)] w fun e w' => e = .returned (.tuple #[]) ∧ DiskAt base g w' v room bs.length bs ∧ Fr (mine g v) w w' := by
  obtain ⟨A, c, rfl, _⟩ := h.own.form
  have c1 := h.c1
  have c2 := h.c2
  have f1 := h.free 1
  have H := Hold.mk h
  clear h
  go_enter Try.func32, Try.ntmps32
  go_wp2
  go_end0
  refine ⟨rfl, ⟨blk_set _ _ 1 _ H.out.block, ?_, H.out.ge, ?_⟩, (Fr.refl _ _).setCell (.inl (.inl rfl)) _⟩
  · exact H.out.own.move (fun k hk => Below.heap_setCell _ _ _ _ (fun e => H.out.apart (by rw [hk, e]))) (fun _ hi _ _ => hi.elim)
  · have := H.out.ok; omega
theorem sync_nil : Calls Try.prog 32 #[.pointer none] w fun e w' => e = .returned (.tuple #[]) ∧ w = w' := by
  go_enter Try.func32, Try.ntmps32
  go_wp2
  go_end0
  exact ⟨rfl, rfl⟩
set_option maxHeartbeats 1000000 in
theorem bytes_calls (h : DiskAt base g w v room synced bs) :
    Calls Try.prog 27 #[.pointer (some ⟨g, 0, none⟩)] w fun e w' => ∃ A1 c1, e = .returned (.slice A1 bs.length c1) ∧ (A1 = none → c1 = 0) ∧
      Rep.Own (Rep.int .u8) 5 w.heap.size nob w' (.slice A1 bs.length c1) bs ∧ Below w.heap.size w w' := by
  obtain ⟨A, c, rfl, _⟩ := h.own.form
  have c2 := h.c2
  have H := Hold.mk h
  have HR := Hold.mk h.own.row
  have HN := Hold.mk (h.own.cap_nil _ _ _ rfl)
  clear h
  go_enter Try.func27, Try.ntmps27
  go_wp2_with fail
  refine (Clone.clone_calls A c bs _ w HR.out HN.out (by have := H.out.ok; omega)).mono ?_
  rintro e w1 ⟨A1, c1, rfl, _, hown, hb⟩
  have HO := Hold.mk hown
  have HB := Hold.mk hb
  clear hown hb
  go_wp2
  go_ret
  exact ⟨A1, c1, rfl, HO.out.cap_nil _ _ _ rfl, HO.out, HB.out⟩
theorem bytes_nil : Calls Try.prog 27 #[.pointer none] w fun e w' => e = .returned (.slice none 0 0) ∧ w = w' := by
  go_enter Try.func27, Try.ntmps27
  go_wp2
  go_ret
  exact ⟨rfl, rfl⟩
theorem append_nil (a : Value) : Calls Try.prog 33 #[.pointer none, a] w fun e w' => e = .returned (.int .i64 1) ∧ w = w' := by
  go_enter Try.func33, Try.ntmps33
  go_wp2
  go_ret
  exact ⟨rfl, rfl⟩
theorem cut_nil (n : Int) : Calls Try.prog 34 #[.pointer none, .int .i64 n] w fun e w' => e = .returned (.int .i64 1) ∧ w = w' := by
  go_enter Try.func34, Try.ntmps34
  go_wp2
  go_ret
  exact ⟨rfl, rfl⟩
theorem crash_nil (n : Int) : Calls Try.prog 29 #[.pointer none, .int .i64 n] w fun e w' => e = .returned (.tuple #[]) ∧ w = w' := by
  go_enter Try.func29, Try.ntmps29
  go_wp2
  go_end0
  exact ⟨rfl, rfl⟩
theorem clone_nil : Calls Try.prog 35 #[.pointer none] w fun e w' => e = .returned (.pointer none) ∧ w = w' := by
  go_enter Try.func35, Try.ntmps35
  go_wp2
  go_ret
  exact ⟨rfl, rfl⟩

set_option maxHeartbeats 1000000 in
theorem append_full (h : DiskAt base g w v room synced bs) (A : Option Addr) (c n : Nat) (hn : (room - bs.length) < n) :
    Calls Try.prog 33 #[.pointer (some ⟨g, 0, none⟩), .slice A n c] w fun e w' => e = .returned (.int .i64 4) ∧ ∃ k, w' = w.drewN k := by
  have H := Hold.mk h
  have t1 := decide_eq_true hn
  clear h hn
  go_enter Try.func33, Try.ntmps33
  go_wp2_with fail
  refine (left_calls base g w v room synced bs H.out).mono ?_
  rintro e w1 ⟨rfl, k, rfl⟩
  go_wp2
  go_ret
  exact ⟨rfl, _, rfl⟩
set_option maxHeartbeats 2000000 in
theorem append_room (h : DiskAt base g w v room synced bs) (A : Option Addr) (c : Nat) (b : List Int) (I : Nat → Prop) (hn : (b.length : Int) ≤ room - bs.length) (hr : Rep.Row (Rep.int .u8) I w A b) (hnil : A = none → c = 0) (hI : ∀ k, I k → k < w.heap.size → some k ≠ v.ownBlock) (hbase : base ≤ w.heap.size) :
    Calls Try.prog 33 #[.pointer (some ⟨g, 0, none⟩), .slice A b.length c] w fun e w' => ∃ v', e = .returned (.int .i64 0) ∧ DiskAt base g w' v' room synced (bs ++ b) ∧ Fr (mine g v) w w' ∧
      (v'.ownBlock = v.ownBlock ∨ ∃ k, v'.ownBlock = some k ∧ w.heap.size ≤ k) := by
  obtain ⟨A0, c0, rfl, _⟩ := h.own.form
  have H := Hold.mk h
  have t1 : decide (room - bs.length < (b.length : Int)) = false := decide_eq_false (by omega)
  have HN := Hold.mk hn
  have HR := Hold.mk hr
  have HI := Hold.mk hI
  have HNil := Hold.mk hnil
  have HBs := Hold.mk hbase
  clear h hn hr hI hnil hbase
  go_enter Try.func33, Try.ntmps33
  go_wp2_with fail
  refine (left_calls base g w _ room synced bs H.out).mono ?_
  rintro e w1 ⟨rfl, k, rfl⟩
  obtain ⟨w1, hw1⟩ : ∃ W, w.drewN k = W := ⟨_, rfl⟩
  have hd1 : DiskAt base g w1 (.slice A0 bs.length c0) room synced bs := by rw [← hw1]; exact H.out.keep rfl (fun _ _ => rfl)
  have hr1 : Rep.Row (Rep.int .u8) I w1 A b := by rw [← hw1]; exact HR.out.drewN k
  have hs1 : w1.heap.size = w.heap.size := by rw [← hw1]; rfl
  have hb1 : Fr (mine g (.slice A0 bs.length c0)) w w1 := by rw [← hw1]; exact (Fr.refl _ _).drewN k
  rw [hw1]
  clear hw1
  have c2 := hd1.c2
  have HD := Hold.mk hd1
  have HR1 := Hold.mk hr1
  have HS1 := Hold.mk hs1
  have HB1 := Hold.mk hb1
  clear hd1 hr1 hs1 hb1
  go_wp2_with (at_builtin; refine Rep.wp_append (Rep.int .u8) rfl (.tmp 18) (.tmp 19) 22 5 (.int .u8 0) 1 rfl Try.underlying22 info_u8 rfl (by decide) (by decide) base _ bs b A b.length c rfl rfl rfl HD.out.own HR1.out ?c1 HNil.out ?c2 ?c3 ?_)
  case c1 => intro k hk hlt; have := HS1.out; exact HI.out k hk (by omega)
  case c2 => have := HS1.out; have := HBs.out; omega
  case c3 => have := H.out.ok; have := HN.out; omega
  intro v2 w2 hown2 hg2 hat2
  replace hown2 := hown2.flat nob (Rep.flat_int _)
  obtain ⟨L, hL⟩ : ∃ L, bs ++ b = L := ⟨_, rfl⟩
  rw [hL] at hown2
  have HL := Hold.mk hL
  clear hL
  obtain ⟨A2, c2', rfl, _⟩ := hown2.form
  have hblk : w2.heap[g]? = some (.cells #[.int .i64 room, .int .i64 synced, .slice A0 bs.length c0] 94 (0, 0)) := (hg2.block g HD.out.lt (Ne.symm HD.out.apart)).trans HD.out.block
  have f2 : w2.frozen? ⟨g, 2, none⟩ = false := by simp [World.frozen?, hblk]
  have cc : w2.cell? ⟨g, 2, none⟩ = some (.slice A0 bs.length c0) := by simp [World.cell?, hblk]
  have hne : (Value.slice A2 L.length c2').ownBlock ≠ some g := by
    intro he
    obtain ⟨cells, ho, _⟩ := hown2
    rcases ho.2 with ⟨h, _⟩ | ⟨g', cap, cur, h, _, hh, _⟩
    · rw [h] at he; cases he
    · rw [h] at he
      injection he with he
      have he : g' = g := he
      subst he
      rw [hblk] at hh
      injection hh with hh
      injection hh with _ hh
      exact absurd hh (by decide)
  have HO := Hold.mk hown2
  have HBlk := Hold.mk hblk
  have HNe := Hold.mk hne
  have HAt := Hold.mk hat2
  have HF := Hold.mk (HB1.out.grown hg2 (fun k hk => .inl (.inr hk)))
  clear hown2 hg2 hblk hne hat2 c2
  go_wp2
  go_ret
  rw [HL.out]
  refine ⟨_, rfl, ⟨blk_set _ _ 2 _ HBlk.out, HO.out.move (fun k hk => Below.heap_setCell _ _ _ _ (fun e => HNe.out (by rw [hk, e]))) (fun _ hi _ _ => hi.elim), HD.out.ge, ?_⟩, HF.out.setCell (.inl (.inl rfl)) _, ?_⟩
  · have := HD.out.ok; have := HN.out; rw [← HL.out, List.length_append]; omega
  · rcases HAt.out with h | h
    · exact .inl h
    · exact .inr ⟨_, h, by have := HS1.out; omega⟩

set_option maxHeartbeats 1000000 in
theorem cut_no (h : DiskAt base g w v room synced bs) (n : Int) (hn : n < 0 ∨ (bs.length : Int) < n) :
    Calls Try.prog 34 #[.pointer (some ⟨g, 0, none⟩), .int .i64 n] w fun e w' => e = .returned (.int .i64 1) ∧ w = w' := by
  obtain ⟨A0, c0, rfl, _⟩ := h.own.form
  have c2 := h.c2
  clear h
  by_cases h1 : n < 0
  · have t1 := decide_eq_true h1
    clear h1 hn
    go_enter Try.func34, Try.ntmps34
    go_wp2
    go_ret
    exact ⟨rfl, rfl⟩
  · have t1 := decide_eq_false h1
    have t2 : decide ((bs.length : Int) < n) = true := decide_eq_true (by omega)
    clear h1 hn
    go_enter Try.func34, Try.ntmps34
    go_wp2
    go_ret
    exact ⟨rfl, rfl⟩
/-- A whole copy over a fresh row of as many cells: the run, with a world of which the row is known. -/
theorem run_copy_fresh {P : Program} (w : World) (dT sT ty elem t : TypeId) (g n sLen sCap : Nat) (dCap : Nat) (sp : Option Addr) (cur cs : List Value)
    (hu : P.underlying dT = some (.slice elem)) (hs : (P.info? elem).map (·.size) = some 1) (hg : w.heap[g]? = some (.cells cur.toArray t (0, 0))) (hcur : cur.length = n) (hcs : cs.length = n) (hn : n ≤ sLen)
    (hsrc : 0 < n → ∃ ad, sp = some ad ∧ ∀ j v, cs[j]? = some v → w.cell? (ad.add j) = some v) (h1 : ∀ v ∈ cs, v.oneCell' = true) :
    ∃ w', (Builtin.copy_ #[dT, sT] ty #[.slice (some ⟨g, 0, none⟩) n dCap, .slice sp sLen sCap]).run P w = .ok (.int .i64 (n : Int)) w' ∧ w'.heap[g]? = some (.cells cs.toArray t (0, 0)) ∧ Below g w w' := by
  by_cases h0 : n = 0
  · subst h0
    obtain rfl := List.eq_nil_of_length_eq_zero hcs
    obtain rfl := List.eq_nil_of_length_eq_zero hcur
    exact ⟨w, run_copy_none (P := P) w dT sT ty elem _ sp 0 dCap sLen sCap hu hs (by simp), hg, Below.refl _ _⟩
  · obtain ⟨ad, rfl, hv⟩ := hsrc (by omega)
    refine ⟨w.setRow g (cur.toArray.toList.take 0 ++ cs ++ cur.toArray.toList.drop (0 + cs.length)).toArray, ?_, ?_, below_setRow (Below.refl _ _) (Nat.le_refl _) _⟩
    · rw [run_copy_row _ w dT sT ty elem g 0 n dCap ad sLen sCap cur.toArray t cs hu hs hg (by rw [hcs]; exact (Nat.min_eq_right hn).symm) hv (by simp [hcs, hcur]) h1, hcs]
      rfl
    · have := setRow_heap w g cur.toArray (cur.toArray.toList.take 0 ++ cs ++ cur.toArray.toList.drop (0 + cs.length)).toArray t (0, 0) hg
      rw [this]
      simp [hcs, hcur]

set_option maxHeartbeats 2000000 in
set_option maxRecDepth 100000 in
theorem cut_yes (h : DiskAt base g w v room synced bs) (n : Nat) (hn : n ≤ bs.length) (hbase : base ≤ w.heap.size) :
    Calls Try.prog 34 #[.pointer (some ⟨g, 0, none⟩), .int .i64 (n : Int)] w fun e w' => ∃ v', e = .returned (.int .i64 0) ∧ DiskAt base g w' v' room n (bs.take n) ∧ Fr (mine g v) w w' ∧ v'.ownBlock = some w.heap.size := by
  obtain ⟨i0, hi, hz0, hz1, hz2⟩ := info_parts info_u8
  have hok := h.ok
  have hmk := fun (W : World) (hb : base ≤ W.heap.size) => run_make_full (P := Try.prog) W base 22 5 i0 (.int .u8 0) 1 Try.underlying22 hi hz0 hz1 .i64 .i64 n (by rw [hz2]; omega) (by simp only [maxLen]; omega) hb
  obtain ⟨w1, hrun, hown, hg⟩ := hmk w hbase
  obtain ⟨A0, c0, rfl, hc0⟩ := h.own.form
  have hsz : (Try.prog.info? 5).map (·.size) = some 1 := by kernel_rfl
  have hblk1 : w1.heap[g]? = some (.cells #[.int .i64 room, .int .i64 synced, .slice A0 bs.length c0] 94 (0, 0)) := (hg.block g h.lt (by simp)).trans h.block
  have c2 : w1.cell? ⟨g, 2, none⟩ = some (.slice A0 bs.length c0) := by simp [World.cell?, hblk1]
  have cc2 := h.c2
  have hrow1 : Rep.Row (Rep.int .u8) (fun k => k < w.heap.size) w1 A0 bs := h.own.row.move fun k _ hlt => ⟨hlt, hg.block k hlt (by simp)⟩
  have hnew : w1.heap[w.heap.size]? = some (.cells ((List.replicate n (Value.int .u8 0)).toArray) 5 (0, 0)) := by
    rcases hown.2 with ⟨h, _⟩ | ⟨g', cap, cur, h, _, hh, _, _, hcs, htk⟩
    · cases h
    · injection h with e1 e2 e3
      injection e1 with e1
      injection e1 with e1
      subst e1; subst e3
      rw [hh]
      have e : (madeCells (Value.int .u8 0).cells (n * 1)).toList = List.replicate n (Value.int .u8 0) := by
        rw [Nat.mul_one]; exact toList_madeCells_one (.int .u8 0) n
      rw [e, List.take_of_length_le (by simp [hcs])] at htk
      rw [← htk]
  have t2 : decide (bs.length < n) = false := decide_eq_false (by omega)
  have hszw : w.heap.size ≤ w1.heap.size := hg.size
  have hl : (bs.take n).length = n := by rw [List.length_take]; omega
  obtain ⟨w2, hcopy, hrow2, hb2⟩ := run_copy_fresh (P := Try.prog) w1 22 22 3 5 5 w.heap.size n bs.length c0 n A0 (List.replicate n (Value.int .u8 0)) ((bs.take n).map (Value.int .u8)) Try.underlying22 hsz hnew (by simp) (by simpa using hl) hn (by
      intro hpos
      obtain ⟨ad, e, _, _, hc⟩ := hrow1.2 (by omega)
      refine ⟨ad, e, fun j u hu => ?_⟩
      rw [List.getElem?_map] at hu
      obtain ⟨x, hx, rfl⟩ := Option.map_eq_some_iff.1 hu
      rw [List.getElem?_take] at hx
      split at hx
      · obtain ⟨cs, ⟨rfl, _⟩, hcs⟩ := hc j x hx
        have := hcs 0 _ rfl
        simpa [Rep.int] using this
      · cases hx) (by intro u hu; simp only [List.mem_map] at hu; obtain ⟨x, _, rfl⟩ := hu; rfl)
  have hblk2 : w2.heap[g]? = some (.cells #[.int .i64 room, .int .i64 synced, .slice A0 bs.length c0] 94 (0, 0)) := (hb2.block g h.lt).trans hblk1
  have hown2 : Rep.Own (Rep.int .u8) 5 base nob w2 (.slice (some ⟨w.heap.size, 0, none⟩) n n) (bs.take n) := by
    refine Rep.own_ints nob ?_ (fun x hx => Rep.row_wf hrow1 x (List.mem_of_mem_take hx))
    refine ⟨?_, .inr ⟨w.heap.size, n, _, by rw [hl], hbase, hrow2, by (simp; try omega), ?_, by (simp; try omega), by rw [List.take_of_length_le (by simp)]⟩⟩
    · simp; try omega
    · simp only [maxLen]; omega
  have cc2' : w2.cell? ⟨g, 2, none⟩ = some (.slice A0 bs.length c0) := by simp [World.cell?, hblk2]
  have cc1 : w2.cell? ⟨g, 1, none⟩ = some (.int .i64 synced) := by simp [World.cell?, hblk2]
  have ff2 : w2.frozen? ⟨g, 2, none⟩ = false := by simp [World.frozen?, hblk2]
  have ff1 : w2.frozen? ⟨g, 1, none⟩ = false := by simp [World.frozen?, hblk2]
  have hfr : Fr (mine g (.slice A0 bs.length c0)) w w2 := ⟨hb2.os.trans hg.os, hb2.tape.trans hg.tape, hb2.output.trans hg.output, Nat.le_trans hg.size hb2.size, fun i hi _ => (hb2.block i hi).trans (hg.block i hi (by simp))⟩
  have cf : ((w2.setCell ⟨g, 2, none⟩ (.slice (some ⟨w.heap.size, 0, none⟩) n n))).frozen? ⟨g, 1, none⟩ = false := by simp [World.frozen?, blk_set g w2 2 _ hblk2]
  have HO2 := Hold.mk hown2
  have HB2 := Hold.mk hblk2
  have HF2 := Hold.mk hfr
  have H := Hold.mk h
  have HN := Hold.mk hn
  have HL := Hold.mk hl
  have HSz := Hold.mk hszw
  have HRun := Hold.mk hrun
  clear h hn hnew hblk1 hrow1 hszw hg hown hmk hi hz0 hz1 hz2 hok hbase hl hblk2 hown2 hfr hrow2 hb2 hc0 hsz
  go_enter Try.func34, Try.ntmps34
  go_wp2
  go_ret
  have hne : ∀ k, (Value.slice (some ⟨w.heap.size, 0, none⟩) n n).ownBlock = some k → k ≠ g := by
    intro k hk e
    injection hk with hk
    have hk : w.heap.size = k := hk
    have := H.out.lt
    omega
  refine ⟨_, rfl, ⟨blk_set _ _ 1 _ (blk_set _ _ 2 _ HB2.out), ?_, H.out.ge, ?_⟩, (HF2.out.setCell (.inl (.inl rfl)) _).setCell (.inl (.inl rfl)) _, rfl⟩
  · refine HO2.out.move (fun k hk => ?_) (fun _ hi _ _ => hi.elim)
    exact (Below.heap_setCell _ _ _ _ (hne k hk)).trans (Below.heap_setCell _ _ _ _ (hne k hk))
  · have := H.out.ok; have := HN.out; rw [HL.out]; omega

/-- How many are kept by a crash. -/
def crashN (synced len keep : Int) : Nat := (synced + min (max keep 0) (len - synced)).toNat
set_option maxHeartbeats 2000000 in
set_option maxRecDepth 100000 in
theorem crash_calls (h : DiskAt base g w v room synced bs) (keep : Int) (hbase : base ≤ w.heap.size) :
    Calls Try.prog 29 #[.pointer (some ⟨g, 0, none⟩), .int .i64 keep] w fun e w' => ∃ v', e = .returned (.tuple #[]) ∧ DiskAt base g w' v' room (crashN synced bs.length keep) (bs.take (crashN synced bs.length keep)) ∧ Fr (mine g v) w w' ∧ v'.ownBlock = some w.heap.size := by
  obtain ⟨A0, c0, rfl, hc0⟩ := h.own.form
  have c1 := h.c1
  have c2 := h.c2
  have hok := h.ok
  have q1 : IntKind.i64.wrap ((bs.length : Int) - synced) = bs.length - synced := by rw [IntKind.wrap_i64]; omega
  have q2 : IntKind.i64.wrap (synced + (if (bs.length : Int) - synced < (if keep < 0 then 0 else keep) then (bs.length : Int) - synced else (if keep < 0 then 0 else keep))) = ((crashN synced bs.length keep : Nat) : Int) := by
    rw [IntKind.wrap_i64]; unfold crashN; split <;> split <;> omega
  have hle : crashN synced bs.length keep ≤ bs.length := by unfold crashN; omega
  have H := Hold.mk h
  have HBs := Hold.mk hbase
  clear h hc0 hok hbase
  go_enter Try.func29, Try.ntmps29
  go_wp2_with fail
  go_still_tail 19, (by kernel_rfl)
  change wpList _ _ _ _ _ w.drew
  have hd : DiskAt base g w.drew (.slice A0 bs.length c0) room synced bs := H.out.keep rfl (fun _ _ => rfl)
  obtain ⟨N, hN⟩ : ∃ N, crashN synced bs.length keep = N := ⟨_, rfl⟩
  rw [hN] at hle q2 ⊢
  have HNN := Hold.mk hN
  obtain ⟨w2, hw2⟩ : ∃ W, w.drew = W := ⟨_, rfl⟩
  have hs2 : w2.heap.size = w.heap.size := by rw [← hw2]; rfl
  have hf2 : Fr (mine g (.slice A0 bs.length c0)) w w2 := by rw [← hw2]; exact (Fr.refl _ _).drew
  rw [hw2] at hd ⊢
  clear hw2 c1 c2 hN
  have HD := Hold.mk hd
  have HLe := Hold.mk hle
  have HS2 := Hold.mk hs2
  have HF := Hold.mk hf2
  clear hd hle hs2 hf2 q1 q2
  go_wp2_with fail
  all_goals (
    refine (cut_yes base g w2 _ room synced bs HD.out N HLe.out (by have := HS2.out; have := HBs.out; omega)).mono ?_
    rintro e w3 ⟨v3, rfl, hd3, hf3, ho3⟩
    have HD3 := Hold.mk hd3
    have HF3 := Hold.mk hf3
    have HO3 := Hold.mk ho3
    clear hd3 hf3 ho3
    go_wp2
    go_end0
    rw [HNN.out]
    exact ⟨v3, rfl, HD3.out, HF.out.trans HF3.out (fun _ _ h => h), by rw [HO3.out, HS2.out]⟩)
set_option maxHeartbeats 2000000 in
theorem clone_calls (h : DiskAt base g w v room synced bs) :
    Calls Try.prog 35 #[.pointer (some ⟨g, 0, none⟩)] w fun e w' => ∃ g' v', e = .returned (.pointer (some ⟨g', 0, none⟩)) ∧ DiskAt w.heap.size g' w' v' room synced bs ∧ Below w.heap.size w w' := by
  obtain ⟨A0, c0, rfl, hc0⟩ := h.own.form
  have c0' := h.c0
  have c1 := h.c1
  have c2 := h.c2
  have hrow := h.own.row
  have hnil := h.own.cap_nil _ _ _ rfl
  have hlen : bs.length ≤ 140737488355328 := by have := h.ok; omega
  have hg := h.lt
  have H := Hold.mk h
  have HR := Hold.mk hrow
  have HNil := Hold.mk hnil
  have HLen := Hold.mk hlen
  have HG := Hold.mk hg
  clear h hrow hnil hlen hg hc0
  go_enter Try.func35, Try.ntmps35
  go_wp2_with fail
  go_region_held3 (fun w' => w'.cell? ⟨g, 0, none⟩ = some (.int .i64 room) ∧ w'.cell? ⟨g, 1, none⟩ = some (.int .i64 synced) ∧ w'.cell? ⟨g, 2, none⟩ = some (.slice A0 bs.length c0)) (first | exact ⟨c0', c1, c2⟩ | exact ⟨hd1.c0, hd1.c1, hd1.c2⟩ | exact ⟨hd2.c0, hd2.c1, hd2.c2⟩) (first | (go_at_call 80; (refine (Clone.clone_calls A0 c0 bs _ w.drew HR.out.drew HNil.out HLen.out).mono ?_); rintro e w1 ⟨A1, cc, rfl, _, hown, hb⟩; have hd1 : DiskAt base g w1 (.slice A0 bs.length c0) room synced bs := (H.out.keep (w' := w.drew) rfl (fun _ _ => rfl)).below hb; have hd2 := hd1.below ((Below.refl _ w1).alloc (Nat.le_refl _) (.cells #[.int .i64 room, .int .i64 synced, .slice A1 bs.length cc] 94 (0, 0)))))
  have HO := Hold.mk hown
  have HB := Hold.mk hb
  have hbs : Below w.heap.size w w1 := ⟨hb.os, hb.tape, hb.output, hb.size, hb.block⟩
  have HB1 := Hold.mk hbs
  clear hd1 hd2 hown hb hbs c0' c1 c2
  go_wp2
  go_ret
  refine ⟨w1.heap.size, .slice A1 bs.length cc, rfl, ⟨?_, ?_, ?_, ?_⟩, HB1.out.alloc HB1.out.size _⟩
  · show (w1.heap.push _)[w1.heap.size]? = _
    simp
  · exact HO.out.alloc _
  · exact HB1.out.size
  · exact H.out.ok
end
end Go.Proofs.Ytgeeicpjphdolaa.Disk
