/- Package net by its walks: a net in memory (NetAt), and what each method leaves; no condition but that. -/
import Derived.Test.YtgeeicpjphdolaaClone
import Derived.Test.YtgeeicpjphdolaaDelete
import Derived.Deep.RegionHeldLaw
import Derived.Deep.RegionLaw
import Derived.StillTailTactics
namespace Go.Proofs.Ytgeeicpjphdolaa.Net
open Go.RowKit Go.Proofs.Ytgeeicpjphdolaa.B

section
open Rep
variable {P : Program} {ops : Array Oper} {o : Oper} {a : Act} {K : Act → World → Prop} {Q : Exit → Act → World → Prop} {E : Prop}
/-- append as a step of a region whose order is drawn. -/
theorem step_append {α : Type} (d : Rep α) (hgd : o.guard = none) (s x : Operand) (t e : TypeId) (z : Value) (bytes : Nat)
    (ho : o.op = .call { callee := .builtin .append, args := #[s, x], argTypes := #[t, t] })
    (ht : P.underlying t = some (.slice e)) (hinfo : (P.info? e).map (fun i => (i.zero, i.size, i.bytes)) = some (some z, d.sz, bytes)) (hzs : z.cells.size = d.sz) (hsz : 0 < d.sz) (hb0 : 0 < bytes)
    {W : World} (base : Nat) {I J : Nat → Prop} (v : Value) (xs ys : List α) (A : Option Addr) (m c : Nat) (hs : a.eval s = v) (hx : a.eval x = .slice A m c) (hm : m = ys.length)
    (HO : Own d e base I W v xs) (HR : Row d J W A ys) (hJ : ∀ k, J k → k < W.heap.size → some k ≠ v.ownBlock) (hnil : A = none → c = 0) (hbase : base ≤ W.heap.size) (hl : (xs.length + ys.length) * bytes ≤ 140737488355328)
    (h : ∀ v1 w1, Own d e base (fun k => I k ∨ J k) w1 v1 (xs ++ ys) → W.grownBy w1 v.ownBlock → (v1.ownBlock = v.ownBlock ∨ v1.ownBlock = some W.heap.size) → K (a.put o.dst v1) w1) :
    if Region.wanted o (yielded ops a.tmps) = true then Oper.wp P o a W K Q else E := by
  subst hm
  have hw : Region.wanted o (yielded ops a.tmps) = true := by simp [Region.wanted, hgd]
  rw [if_pos hw]
  obtain ⟨v1, w1, hr, hown, hg, hat⟩ := run_append t o.type e z bytes ht hinfo hzs hsz hb0 HO HR hJ hnil hbase hl
  unfold Oper.wp execOp
  simp only [ho, resolve, invoke, builtin, Sem.run_bind, Sem.run_pure, Result.andThen_ok, List.map_toArray, List.map_cons, List.map_nil, hs, hx, hr]
  exact h v1 w1 hown hg hat
end
/-- Bytes, read through a slice. -/
abbrev bytesRep : Rep (List Int) := Rep.slice (Rep.int .u8)
theorem info_bytes : (Try.prog.info? 22).map (fun i => (i.zero, i.size, i.bytes)) = some (some (.slice none 0 0), 1, 24) := by kernel_rfl
theorem size_bytes : (Try.prog.info? 22).map (·.size) = some 1 := by kernel_rfl

/-- A net in memory: its struct at block g, its frames in a row of its own (value v), their bytes in blocks of J, but g. -/
structure NetAt (base g : Nat) (J : Nat → Prop) (w : World) (v : Value) (room lost : Int) (ls : List (List Int)) : Prop where
  block : w.heap[g]? = some (.cells #[.int .i64 room, .int .i64 lost, v] 97 (0, 0))
  own : Rep.Own bytesRep 22 base (fun k => J k ∧ k ≠ g) w v ls
  ge : base ≤ g
  ok : 1 ≤ room ∧ room ≤ 4096 ∧ (ls.length : Int) ≤ room
  small : ∀ x ∈ ls, x.length ≤ 3000

section
variable {base g : Nat} {J : Nat → Prop} {w w' : World} {v : Value} {room lost : Int} {ls : List (List Int)}
theorem NetAt.lt (h : NetAt base g J w v room lost ls) : g < w.heap.size := (Array.getElem?_eq_some_iff.1 h.block).1
theorem NetAt.c0 (h : NetAt base g J w v room lost ls) : w.cell? ⟨g, 0, none⟩ = some (.int .i64 room) := by simp [World.cell?, h.block]
theorem NetAt.c1 (h : NetAt base g J w v room lost ls) : w.cell? ⟨g, 1, none⟩ = some (.int .i64 lost) := by simp [World.cell?, h.block]
theorem NetAt.c2 (h : NetAt base g J w v room lost ls) : w.cell? ⟨g, 2, none⟩ = some v := by simp [World.cell?, h.block]
theorem NetAt.free (h : NetAt base g J w v room lost ls) (i : Nat) : w.frozen? ⟨g, i, none⟩ = false := by simp [World.frozen?, h.block]
theorem NetAt.keep (h : NetAt base g J w v room lost ls) (hg : w'.heap[g]? = w.heap[g]?) (hv : ∀ k, v.ownBlock = some k → w'.heap[k]? = w.heap[k]?) (hi : ∀ k, J k → k ≠ g → some k ≠ v.ownBlock → k < w.heap.size → w'.heap[k]? = w.heap[k]?) : NetAt base g J w' v room lost ls :=
  ⟨hg.trans h.block, h.own.move hv (fun k hk hn hlt => ⟨hk, hi k hk.1 hk.2 hn hlt⟩), h.ge, h.ok, h.small⟩
theorem NetAt.below (h : NetAt base g J w v room lost ls) (hb : Below w.heap.size w w') : NetAt base g J w' v room lost ls :=
  h.keep (hb.block g h.lt) (fun k hk => hb.block k (h.own.block_lt k hk).2) (fun k _ _ _ hk => hb.block k hk)
/-- The frames' row is not the struct's block. -/
theorem NetAt.mine (h : NetAt base g J w v room lost ls) : v.ownBlock ≠ some g := by
  intro he
  obtain ⟨cells, ho, _⟩ := h.own
  rcases ho.2 with ⟨rfl, _⟩ | ⟨g', cap, cur, rfl, _, hh, _⟩
  · cases he
  · injection he with he
    have he : g' = g := he
    subst he
    rw [h.block] at hh
    injection hh with hh
    injection hh with _ hh
    exact absurd hh (by decide)
/-- A frame at a place. -/
theorem NetAt.frame (h : NetAt base g J w v room lost ls) (i : Nat) (hi : i < ls.length) :
    ∃ b c A1 c1, v = .slice (some ⟨b, 0, none⟩) ls.length c ∧ w.cell? ⟨b, i, none⟩ = some (.slice A1 ls[i].length c1) ∧ ls[i].length ≤ c1 ∧ (A1 = none → c1 = 0) ∧ Rep.Row (Rep.int .u8) (fun k => (J k ∧ k ≠ g) ∧ some k ≠ v.ownBlock) w A1 ls[i] := by
  obtain ⟨b, c, rfl, _⟩ := h.own.form_pos (by omega)
  obtain ⟨cells, ho, hx⟩ := h.own
  obtain ⟨cs, ⟨A1, c1, rfl, hl, hn, hr⟩, hcs⟩ := hx i _ (List.getElem?_eq_getElem hi)
  have hci : cells[i]? = some (.slice A1 ls[i].length c1) := by have := hcs 0 _ rfl; simpa [Rep.slice] using this
  refine ⟨b, c, A1, c1, rfl, ?_, hl, hn, hr⟩
  rcases ho.2 with ⟨e, _⟩ | ⟨b', cap, cur, e, _, hh, _, _, hcur, htk⟩
  · cases e
  · injection e with e1 e2 e3
    injection e1 with e1
    injection e1 with e1
    subst e1
    have : cur.toList[i]? = some (.slice A1 ls[i].length c1) := by
      rw [← htk, List.getElem?_take] at hci
      split at hci
      · exact hci
      · cases hci
    rw [Array.getElem?_toList] at this
    simp [World.cell?, hh, this]
end

set_option maxHeartbeats 1000000 in
theorem new_no (room : Int) (w : World) (h : room < 1 ∨ 4096 < room) :
    Calls Try.prog 62 #[.int .i64 room] w fun e w' => e = .returned (.tuple #[.pointer none, .int .i64 1]) ∧ w = w' := by
  by_cases h1 : room < 1
  · have t1 := decide_eq_true h1
    clear h1 h
    go_enter Try.func62, Try.ntmps62
    go_wp2
    go_ret2
    exact ⟨rfl, rfl⟩
  · have t1 := decide_eq_false h1
    have t2 : decide (4096 < room) = true := decide_eq_true (by omega)
    clear h1 h
    go_enter Try.func62, Try.ntmps62
    go_wp2
    go_ret2
    exact ⟨rfl, rfl⟩
set_option maxHeartbeats 1000000 in
theorem new_yes (room : Int) (base : Nat) (w : World) (h : 1 ≤ room) (h2 : room ≤ 4096) (hb : base ≤ w.heap.size) (J : Nat → Prop) :
    Calls Try.prog 62 #[.int .i64 room] w fun e w' => e = .returned (.tuple #[.pointer (some ⟨w.heap.size, 0, none⟩), .int .i64 0]) ∧ Below w.heap.size w w' ∧ NetAt base w.heap.size J w' (.slice none 0 0) room 0 [] := by
  have t1 : decide (room < 1) = false := decide_eq_false (by omega)
  have t2 : decide (4096 < room) = false := decide_eq_false (by omega)
  have H := Hold.mk h
  have H2 := Hold.mk h2
  clear h h2
  go_enter Try.func62, Try.ntmps62
  go_wp2
  go_ret2
  refine ⟨rfl, (Below.refl _ _).alloc (Nat.le_refl _) _, ⟨?_, Rep.Own.nil _ _ _ _ _, hb, ⟨H.out, H2.out, by simpa using (by have := H.out; omega)⟩, by simp⟩⟩
  show (w.heap.push _)[w.heap.size]? = _
  simp

section
variable (base g : Nat) (J : Nat → Prop) (w : World) (v : Value) (room lost : Int) (ls : List (List Int))
theorem len_calls (h : NetAt base g J w v room lost ls) :
    Calls Try.prog 67 #[.pointer (some ⟨g, 0, none⟩)] w fun e w' => e = .returned (.int .i64 ls.length) ∧ w = w' := by
  obtain ⟨A, c, rfl, _⟩ := h.own.form
  have c2 := h.c2
  clear h
  go_enter Try.func67, Try.ntmps67
  go_wp2
  go_ret
  exact ⟨rfl, rfl⟩
theorem len_nil : Calls Try.prog 67 #[.pointer none] w fun e w' => e = .returned (.int .i64 0) ∧ w = w' := by
  go_enter Try.func67, Try.ntmps67
  go_wp2
  go_ret
  exact ⟨rfl, rfl⟩
theorem lost_calls (h : NetAt base g J w v room lost ls) :
    Calls Try.prog 66 #[.pointer (some ⟨g, 0, none⟩)] w fun e w' => e = .returned (.int .i64 lost) ∧ w = w' := by
  have c1 := h.c1
  clear h
  go_enter Try.func66, Try.ntmps66
  go_wp2
  go_ret
  exact ⟨rfl, rfl⟩
theorem lost_nil : Calls Try.prog 66 #[.pointer none] w fun e w' => e = .returned (.int .i64 0) ∧ w = w' := by
  go_enter Try.func66, Try.ntmps66
  go_wp2
  go_ret
  exact ⟨rfl, rfl⟩
theorem at_nil (i : Int) : Calls Try.prog 68 #[.pointer none, .int .i64 i] w fun e w' => e = .returned (.tuple #[.slice none 0 0, .bool false]) ∧ w = w' := by
  go_enter Try.func68, Try.ntmps68
  go_wp2
  go_ret2
  exact ⟨rfl, rfl⟩
set_option maxHeartbeats 1000000 in
theorem at_no (h : NetAt base g J w v room lost ls) (i : Int) (hi : i < 0 ∨ (ls.length : Int) ≤ i) :
    Calls Try.prog 68 #[.pointer (some ⟨g, 0, none⟩), .int .i64 i] w fun e w' => e = .returned (.tuple #[.slice none 0 0, .bool false]) ∧ w = w' := by
  obtain ⟨A, c, rfl, _⟩ := h.own.form
  have c2 := h.c2
  clear h
  by_cases h1 : i < 0
  · have t1 := decide_eq_true h1
    clear h1 hi
    go_enter Try.func68, Try.ntmps68
    go_wp2
    go_ret2
    exact ⟨rfl, rfl⟩
  · have t1 := decide_eq_false h1
    have t2 : decide ((ls.length : Int) ≤ i) = true := decide_eq_true (by omega)
    clear h1 hi
    go_enter Try.func68, Try.ntmps68
    go_wp2
    go_ret2
    exact ⟨rfl, rfl⟩
set_option maxHeartbeats 2000000 in
theorem at_yes (h : NetAt base g J w v room lost ls) (i : Nat) (hi : i < ls.length) (b : List Int) (hb : ls[i]? = some b) :
    Calls Try.prog 68 #[.pointer (some ⟨g, 0, none⟩), .int .i64 (i : Int)] w fun e w' => ∃ A1 c1, e = .returned (.tuple #[.slice A1 b.length c1, .bool true]) ∧ (A1 = none → c1 = 0) ∧
      Rep.Own (Rep.int .u8) 5 w.heap.size nob w' (.slice A1 b.length c1) b ∧ Below w.heap.size w w' := by
  obtain ⟨bk, c, A1, c1, rfl, hc, hl, hn, hr⟩ := h.frame i hi
  obtain rfl : ls[i] = b := by rw [List.getElem?_eq_getElem hi] at hb; injection hb
  obtain ⟨x, hx⟩ : ∃ x, ls[i] = x := ⟨_, rfl⟩
  rw [hx] at hc hl hr ⊢
  have c2 := h.c2
  have t1 : decide ((i : Int) < 0) = false := decide_eq_false (by omega)
  have t2 : decide (ls.length ≤ i) = false := decide_eq_false (by omega)
  have l1 : (i : Int) < (ls.length : Int) := by omega
  have hxl : x.length ≤ 3000 := h.small x (by rw [← hx]; exact List.getElem_mem hi)
  have H := Hold.mk h
  have HR := Hold.mk hr
  have HN := Hold.mk hn
  have HX := Hold.mk hxl
  clear h hb hx hl hn hr hxl
  go_enter Try.func68, Try.ntmps68
  go_wp2_with fail
  refine (Clone.clone_calls A1 c1 x _ w HR.out HN.out (by have := HX.out; omega)).mono ?_
  rintro e w1 ⟨A3, c3, rfl, _, hown, hb⟩
  have HO := Hold.mk hown
  have HB := Hold.mk hb
  clear hown hb
  go_wp2
  go_ret2
  exact ⟨A3, c3, rfl, HO.out.cap_nil _ _ _ rfl, HO.out, HB.out⟩
theorem double_nil (i : Int) : Calls Try.prog 70 #[.pointer none, .int .i64 i] w fun e w' => e = .returned (.bool false) ∧ ∃ n, w' = w.drewN n := by
  go_enter Try.func70, Try.ntmps70
  go_wp2_with (go_at_call 68; refine (at_nil w i).mono ?_; rintro e w' ⟨rfl, rfl⟩)
  go_quiet (fail)
  go_wp2
  go_ret
  exact ⟨rfl, _, rfl⟩
theorem double_no (h : NetAt base g J w v room lost ls) (i : Int) (hi : i < 0 ∨ (ls.length : Int) ≤ i) :
    Calls Try.prog 70 #[.pointer (some ⟨g, 0, none⟩), .int .i64 i] w fun e w' => e = .returned (.bool false) ∧ ∃ n, w' = w.drewN n := by
  have H := Hold.mk h
  have HI := Hold.mk hi
  clear h hi
  go_enter Try.func70, Try.ntmps70
  go_wp2_with (go_at_call 68; refine (at_no base g J w v room lost ls H.out i HI.out).mono ?_; rintro e w' ⟨rfl, rfl⟩)
  go_quiet (fail)
  go_wp2
  go_ret
  exact ⟨rfl, _, rfl⟩
/-- What may have turned: the net's own two blocks. -/
def mine (g : Nat) (v : Value) : Nat → Prop := fun k => k = g ∨ v.ownBlock = some k
theorem blk_set (w : World) (g i : Nat) (u : Value) {cs : Array Value} {t : TypeId} (h : w.heap[g]? = some (.cells cs t (0, 0))) : (w.setCell ⟨g, i, none⟩ u).heap[g]? = some (.cells (cs.setIfInBounds i u) t (0, 0)) := heap_setCell_same w g i cs t u h
/-- A row that has turned, laid in the net. -/
theorem NetAt.set {base g : Nat} {J : Nat → Prop} {w : World} {v v' : Value} {room lost : Int} {ls' : List (List Int)}
    (hb : w.heap[g]? = some (.cells #[.int .i64 room, .int .i64 lost, v] 97 (0, 0))) (ho : Rep.Own bytesRep 22 base (fun k => J k ∧ k ≠ g) w v' ls') (hg : base ≤ g) (hok : 1 ≤ room ∧ room ≤ 4096 ∧ (ls'.length : Int) ≤ room) (hs : ∀ x ∈ ls', x.length ≤ 3000) :
    NetAt base g J (w.setCell ⟨g, 2, none⟩ v') v' room lost ls' := by
  have hne : ∀ k, v'.ownBlock = some k → k ≠ g := by
    intro k he e
    subst e
    obtain ⟨cells, ho, _⟩ := ho
    rcases ho.2 with ⟨h, _⟩ | ⟨g', cap, cur, h, _, hh, _⟩
    · rw [h] at he; cases he
    · rw [h] at he
      injection he with he
      have he : g' = k := he
      subst he
      rw [hb] at hh
      injection hh with hh
      injection hh with _ hh
      exact absurd hh (by decide)
  exact ⟨blk_set w g 2 _ hb, ho.move (fun k hk => Below.heap_setCell _ _ _ _ (hne k hk)) (fun k hk _ _ => ⟨hk, Below.heap_setCell _ _ _ _ hk.2⟩), hg, hok, hs⟩
set_option maxHeartbeats 2000000 in
theorem double_full (h : NetAt base g J w v room lost ls) (i : Nat) (hi : i < ls.length) (hf : room ≤ ls.length) :
    Calls Try.prog 70 #[.pointer (some ⟨g, 0, none⟩), .int .i64 (i : Int)] w fun e w' => e = .returned (.bool false) ∧ Below w.heap.size w w' := by
  have t1 := decide_eq_true hf
  have H := Hold.mk h
  have HI := Hold.mk hi
  clear h hi hf
  go_enter Try.func70, Try.ntmps70
  go_wp2_with fail
  refine (at_yes base g J w v room lost ls H.out i HI.out _ (List.getElem?_eq_getElem HI.out)).mono ?_
  rintro e w1 ⟨A1, c1, rfl, hn1, ho1, hb1⟩
  have h1 := H.out.below hb1
  obtain ⟨A, c, rfl, _⟩ := h1.own.form
  have c0 := h1.c0
  have c2 := h1.c2
  have HB1 := Hold.mk hb1
  clear hn1 ho1 hb1 h1
  go_wp2_with fail
  go_quiet (fail)
  go_wp2
  go_ret
  exact ⟨rfl, HB1.out.trans ((below_drewN w1 nq).mono HB1.out.size)⟩
set_option maxHeartbeats 2000000 in
theorem double_yes (h : NetAt base g J w v room lost ls) (i : Nat) (hi : i < ls.length) (hf : (ls.length : Int) < room) (b : List Int) (hb : ls[i]? = some b) (hJ : ∀ k, w.heap.size ≤ k → J k) :
    Calls Try.prog 70 #[.pointer (some ⟨g, 0, none⟩), .int .i64 (i : Int)] w fun e w' => e = .returned (.bool true) ∧ Fr (mine g v) w w' ∧ ∃ v', NetAt base g J w' v' room lost (ls ++ [b]) ∧ (v'.ownBlock = v.ownBlock ∨ ∃ k, v'.ownBlock = some k ∧ w.heap.size ≤ k) := by
  have t1 : decide (room ≤ (ls.length : Int)) = false := decide_eq_false (by omega)
  have H := Hold.mk h
  have HI := Hold.mk hi
  have HF := Hold.mk hf
  have HBb := Hold.mk hb
  have HJ := Hold.mk hJ
  have hbl : b.length ≤ 3000 := h.small b (List.mem_of_getElem? hb)
  have HBl := Hold.mk hbl
  clear h hi hf hb hJ hbl
  go_enter Try.func70, Try.ntmps70
  go_wp2_with fail
  refine (at_yes base g J w v room lost ls H.out i HI.out b HBb.out).mono ?_
  rintro e w1 ⟨A1, c1, rfl, hn1, ho1, hb1⟩
  have h1 := H.out.below hb1
  obtain ⟨A, c, rfl, _⟩ := h1.own.form
  have c0 := h1.c0
  have c2 := h1.c2
  have HB1 := Hold.mk hb1
  have HO1 := Hold.mk ho1
  have HN1 := Hold.mk hn1
  have H1 := Hold.mk h1
  clear hn1 ho1 hb1 h1
  go_wp2_with fail
  go_quiet (fail)
  obtain ⟨w2, hw2⟩ : ∃ W, w1.drewN nq = W := ⟨_, rfl⟩
  have h2 : NetAt base g J w2 (.slice A ls.length c) room lost ls := by rw [← hw2]; exact H1.out.keep rfl (fun _ _ => rfl) (fun _ _ _ _ _ => rfl)
  have ho2 : Rep.Own (Rep.int .u8) 5 w.heap.size nob w2 (.slice A1 b.length c1) b := by rw [← hw2]; exact HO1.out.drewN nq
  have hb2 : Below w.heap.size w w2 := by rw [← hw2]; exact HB1.out.trans ((below_drewN w1 nq).mono HB1.out.size)
  rw [hw2]
  clear hw2 c0 c2
  have hlc : b.length ≤ c1 := by obtain ⟨_, _, e, hl⟩ := ho2.form; injection e with _ _ e; omega
  have hk : bytesRep.K (fun k => w.heap.size ≤ k) w2 b [.slice A1 b.length c1] := ⟨A1, c1, rfl, hlc, HN1.out, ho2.row.move fun k hk _ => ⟨(ho2.block_lt k (hk.resolve_left (fun h => h.elim))).1, rfl⟩⟩
  have hrow := Rep.row_box (d := bytesRep) 22 hk
  have hrow' : Rep.Row bytesRep (fun k => w.heap.size ≤ k) (w2.alloc (.cells #[.slice A1 b.length c1] 22)) (some ⟨w2.heap.size, 0, none⟩) [b] := hrow.move fun k hk _ => ⟨by rcases hk with hk | rfl; exact hk; exact hb2.size, rfl⟩
  have h3 := h2.below ((Below.refl _ w2).alloc (Nat.le_refl _) (.cells #[.slice A1 b.length c1] 22))
  have c2 := h2.c2
  have HR := Hold.mk hrow'
  have H2 := Hold.mk h2
  have H3 := Hold.mk h3
  have HB2 := Hold.mk hb2
  clear h2 ho2 hlc hk hrow hrow' h3 hb2
  go_wp2_with (at_builtin; refine Rep.wp_append bytesRep rfl (.tmp 31) (.tmp 33) 27 22 (.slice none 0 0) 24 rfl Try.underlying27 info_bytes rfl (by decide) (by decide) base _ ls [b] _ 1 1 rfl rfl rfl H3.out.own HR.out ?c1 (fun h => by cases h) ?c2 ?c3 ?_)
  case c1 => intro k hk hlt e; have hk : w.heap.size ≤ k := hk; have := H.out.own.block_lt k e.symm; omega
  case c2 => have := H2.out.lt; have := H2.out.ge; simp; omega
  case c3 => have := H.out.ok; simp; omega
  intro v4 w4 hown4 hg4 hat4
  have hown5 : Rep.Own bytesRep 22 base (fun k => J k ∧ k ≠ g) w4 v4 (ls ++ [b]) := hown4.mono fun k hk _ _ => by
    rcases hk with hk | hk
    · exact hk
    · have hk : w.heap.size ≤ k := hk
      exact ⟨HJ.out k hk, by have := H.out.lt; omega⟩
  have hblk : w4.heap[g]? = some (.cells #[.int .i64 room, .int .i64 lost, .slice A ls.length c] 97 (0, 0)) := (hg4.block g (by have := H2.out.lt; simp; omega) (Ne.symm H.out.mine)).trans H3.out.block
  have hfr : Fr (mine g (.slice A ls.length c)) w w4 := (Fr.alloc (Fr.of_below _ HB2.out) _).grown hg4 (fun k hk => .inl (.inr hk))
  obtain ⟨L, hL⟩ : ∃ L, ls ++ [b] = L := ⟨_, rfl⟩
  rw [hL] at hown5
  have hLl : L.length = ls.length + 1 := by rw [← hL]; simp
  have hLs : ∀ x ∈ L, x.length ≤ 3000 := by
    intro x hx
    rw [← hL] at hx
    rcases List.mem_append.1 hx with hx | hx
    · exact H.out.small x hx
    · rw [List.mem_singleton.1 hx]; exact HBl.out
  obtain ⟨A4, c4, rfl, _⟩ := hown5.form
  have f4 : w4.frozen? ⟨g, 2, none⟩ = false := by simp [World.frozen?, hblk]
  have cc4 : w4.cell? ⟨g, 2, none⟩ = some (.slice A ls.length c) := by simp [World.cell?, hblk]
  have hfin := NetAt.set (J := J) hblk hown5 H.out.ge ⟨H.out.ok.1, H.out.ok.2.1, by have := HF.out; omega⟩ hLs
  have hat : (Value.slice A4 L.length c4).ownBlock = (Value.slice A ls.length c).ownBlock ∨ ∃ k, (Value.slice A4 L.length c4).ownBlock = some k ∧ w.heap.size ≤ k := by
    rcases hat4 with h | h
    · exact .inl h
    · exact .inr ⟨_, h, by have := HB2.out.size; simp; omega⟩
  have HFin := Hold.mk hfin
  have HFr := Hold.mk (hfr.setCell (p := ⟨g, 2, none⟩) (.inl (.inl rfl)) (.slice A4 L.length c4))
  have HAt := Hold.mk hat
  have HL := Hold.mk hL
  clear hown4 hg4 hat4 hown5 hblk hfr hL hLl hLs hfin hat c2
  go_wp2
  go_ret
  rw [HL.out]
  exact ⟨rfl, HFr.out, _, HFin.out, HAt.out⟩
/-- A row of which one element is taken out. -/
theorem own_erase {base b c : Nat} {I : Nat → Prop} {w : World} {xs : List (List Int)} (h : Rep.Own bytesRep 22 base I w (.slice (some ⟨b, 0, none⟩) xs.length c) xs) (hpos : 0 < xs.length) :
    ∃ cur : Array Value, w.heap[b]? = some (.cells cur 22 (0, 0)) ∧ xs.length ≤ c ∧ c ≤ maxLen ∧ cur.size = c ∧ (∀ u ∈ cur.toList.take xs.length, u.oneCell' = true) ∧
      ∀ (i : Nat) (w' : World) (cur' : Array Value), i < xs.length → w'.heap[b]? = some (.cells cur' 22 (0, 0)) → cur'.size = c → cur'.toList.take (xs.length - 1) = (cur.toList.take xs.length).eraseIdx i →
        (∀ k, I k → k ≠ b → k < w.heap.size → w'.heap[k]? = w.heap[k]?) → Rep.Own bytesRep 22 base I w' (.slice (some ⟨b, 0, none⟩) (xs.length - 1) c) (xs.eraseIdx i) := by
  obtain ⟨cells, ho, hx⟩ := h
  rcases ho.2 with ⟨e, _⟩ | ⟨b', cap, cur, e, hge, hh, hn, hm, hs, htk⟩
  · cases e
  injection e with e1 e2 e3
  injection e1 with e1
  injection e1 with e1
  subst e1; subst e3
  have hsz : bytesRep.sz = 1 := rfl
  rw [hsz, Nat.mul_one] at hs htk
  have hcl : cells.length = xs.length := by rw [ho.1, hsz, Nat.mul_one]
  refine ⟨cur, hh, hn, hm, hs, ?_, ?_⟩
  · intro u hu
    rw [htk] at hu
    obtain ⟨j, hj, rfl⟩ := List.getElem_of_mem hu
    obtain ⟨cs, hk, hcs⟩ := hx j _ (List.getElem?_eq_getElem (by omega))
    obtain ⟨A1, c1, rfl, _⟩ := hk
    have h0 := hcs 0 _ rfl
    rw [hsz, Nat.mul_one, Nat.add_zero, List.getElem?_eq_getElem hj] at h0
    injection h0 with h0
    rw [h0]; rfl
  · intro i w' cur' hi hh' hs' htk' hkeep
    rw [htk] at htk'
    refine ⟨cells.eraseIdx i, ⟨?_, .inr ⟨b, c, cur', ?_, hge, hh', ?_, hm, ?_, ?_⟩⟩, fun j x hj => ?_⟩
    · rw [List.length_eraseIdx, List.length_eraseIdx, if_pos (by omega), if_pos (by omega), hcl, hsz, Nat.mul_one]
    · rw [List.length_eraseIdx, if_pos (by omega)]
    · rw [List.length_eraseIdx, if_pos (by omega)]; omega
    · rw [hs', hsz, Nat.mul_one]
    · rw [List.length_eraseIdx, if_pos (by omega), hsz, Nat.mul_one]; exact htk'
    · rw [List.getElem?_eraseIdx] at hj
      have key : ∀ j' : Nat, (cells.eraseIdx i)[j]? = cells[j']? → xs[j']? = some x → ∃ cs, bytesRep.K (fun k => I k ∧ some k ≠ (Value.slice (some ⟨b, 0, none⟩) (xs.length - 1) c).ownBlock) w' x cs ∧ ∀ (q : Nat) (u : Value), cs[q]? = some u → (cells.eraseIdx i)[j * bytesRep.sz + q]? = some u := by
        intro j' h1 h2
        obtain ⟨cs, hk, hcs⟩ := hx j' x h2
        refine ⟨cs, bytesRep.move (fun k hk hlt => ⟨⟨hk.1, fun e => hk.2 e⟩, hkeep k hk.1 (fun e => hk.2 (by rw [e]; rfl)) hlt⟩) hk, fun q u hu => ?_⟩
        have hq : q = 0 := by
          obtain ⟨A1, c1, rfl, _⟩ := hk
          have := (List.getElem?_eq_some_iff.1 hu).1
          simp at this; exact this
        subst hq
        have h0 := hcs 0 u hu
        rw [hsz, Nat.mul_one, Nat.add_zero] at h0 ⊢
        rw [h1]; exact h0
      split at hj
      · exact key j (by rw [List.getElem?_eraseIdx, if_pos (by assumption)]) hj
      · exact key (j + 1) (by rw [List.getElem?_eraseIdx, if_neg (by assumption)]) hj
theorem take_nil (i : Int) : Calls Try.prog 69 #[.pointer none, .int .i64 i] w fun e w' => e = .returned (.tuple #[.slice none 0 0, .bool false]) ∧ w = w' := by
  go_enter Try.func69, Try.ntmps69
  go_wp2_with (go_at_call 68; refine (at_nil w i).mono ?_; rintro e w' ⟨rfl, rfl⟩)
  go_ret2
  exact ⟨rfl, rfl⟩
theorem take_no (h : NetAt base g J w v room lost ls) (i : Int) (hi : i < 0 ∨ (ls.length : Int) ≤ i) :
    Calls Try.prog 69 #[.pointer (some ⟨g, 0, none⟩), .int .i64 i] w fun e w' => e = .returned (.tuple #[.slice none 0 0, .bool false]) ∧ w = w' := by
  have H := Hold.mk h
  have HI := Hold.mk hi
  clear h hi
  go_enter Try.func69, Try.ntmps69
  go_wp2_with (go_at_call 68; refine (at_no base g J w v room lost ls H.out i HI.out).mono ?_; rintro e w' ⟨rfl, rfl⟩)
  go_ret2
  exact ⟨rfl, rfl⟩
set_option maxHeartbeats 2000000 in
theorem take_yes (h : NetAt base g J w v room lost ls) (i : Nat) (hi : i < ls.length) (b : List Int) (hb : ls[i]? = some b) :
    Calls Try.prog 69 #[.pointer (some ⟨g, 0, none⟩), .int .i64 (i : Int)] w fun e w' => ∃ A1 c1, e = .returned (.tuple #[.slice A1 b.length c1, .bool true]) ∧ (A1 = none → c1 = 0) ∧ Fr (mine g v) w w' ∧
      Rep.Own (Rep.int .u8) 5 w.heap.size nob w' (.slice A1 b.length c1) b ∧ ∃ v', NetAt base g J w' v' room lost (ls.eraseIdx i) ∧ v'.ownBlock = v.ownBlock := by
  have H := Hold.mk h
  have HI := Hold.mk hi
  have HBb := Hold.mk hb
  clear h hi hb
  go_enter Try.func69, Try.ntmps69
  go_wp2_with fail
  refine (at_yes base g J w v room lost ls H.out i HI.out b HBb.out).mono ?_
  rintro e w1 ⟨A1, c1, rfl, hn1, ho1, hb1⟩
  have h1 := H.out.below hb1
  obtain ⟨bk, c, hv, _⟩ := h1.own.form_pos (by have := HI.out; omega)
  subst hv
  have c2 := h1.c2
  obtain ⟨cur, e1, e2, e3, e4, e5, e6⟩ := own_erase h1.own (by have := HI.out; omega)
  have HB1 := Hold.mk hb1
  have HO1 := Hold.mk ho1
  have HN1 := Hold.mk hn1
  have H1 := Hold.mk h1
  have HE := Hold.mk (And.intro e1 (And.intro e2 (And.intro e3 (And.intro e4 (And.intro e5 e6)))))
  clear hn1 ho1 hb1 h1 e1 e2 e3 e4 e5 e6
  have hib : (i : Int) ≤ 4096 := by have := H.out.ok; have := HI.out; omega
  go_wp2_with fail
  refine (Delete.delete_calls bk c ls.length i cur w1 HE.out.1 HE.out.2.1 HE.out.2.2.2.1 HI.out HE.out.2.2.1 HE.out.2.2.2.2.1).mono ?_
  rintro e w2 ⟨rfl, hf2, cur2, d1, d2, d3⟩
  have hne : bk ≠ g := fun e => H.out.mine (by rw [← e]; rfl)
  have hown2 := HE.out.2.2.2.2.2 i w2 cur2 HI.out d1 d2 d3 (fun k _ hk hlt => hf2.block k hlt hk)
  have hblk : w2.heap[g]? = some (.cells #[.int .i64 room, .int .i64 lost, .slice (some ⟨bk, 0, none⟩) ls.length c] 97 (0, 0)) := (hf2.block g H1.out.lt (Ne.symm hne)).trans H1.out.block
  have hlen : (ls.eraseIdx i).length = ls.length - 1 := by rw [List.length_eraseIdx, if_pos HI.out]
  have hfin := NetAt.set (J := J) hblk hown2 H.out.ge ⟨H.out.ok.1, H.out.ok.2.1, by have := H.out.ok; rw [hlen]; omega⟩ (fun x hx => H.out.small x (List.mem_of_mem_eraseIdx hx))
  have f2 : w2.frozen? ⟨g, 2, none⟩ = false := by simp [World.frozen?, hblk]
  have cc2 : w2.cell? ⟨g, 2, none⟩ = some (.slice (some ⟨bk, 0, none⟩) ls.length c) := by simp [World.cell?, hblk]
  have hbo : ∀ k, (Value.slice A1 b.length c1).ownBlock = some k → w.heap.size ≤ k ∧ k < w1.heap.size := fun k hk => HO1.out.block_lt k hk
  have hfr : Fr (mine g (.slice (some ⟨bk, 0, none⟩) ls.length c)) w w2 := (Fr.of_below (mine g (.slice (some ⟨bk, 0, none⟩) ls.length c)) HB1.out).trans hf2 (fun k _ e => .inr (by rw [e]; rfl))
  have hob : Rep.Own (Rep.int .u8) 5 w.heap.size nob (w2.setCell ⟨g, 2, none⟩ (.slice (some ⟨bk, 0, none⟩) (ls.length - 1) c)) (.slice A1 b.length c1) b := HO1.out.move (fun k hk => by
    have h1 := hbo k hk
    have h2 := H.out.lt
    have h3 := H.out.own.block_lt bk rfl
    exact (Below.heap_setCell _ _ _ _ (by show k ≠ g; omega)).trans (hf2.block k h1.2 (by show ¬ k = bk; omega))) (fun _ hi _ _ => hi.elim)
  have HFin := Hold.mk hfin
  have HFr := Hold.mk (hfr.setCell (p := ⟨g, 2, none⟩) (.inl (.inl rfl)) (.slice (some ⟨bk, 0, none⟩) (ls.length - 1) c))
  have HOb := Hold.mk hob
  clear hf2 d1 d2 d3 hne hown2 hblk hlen hfin hbo hfr hob c2
  go_wp2
  go_ret2
  exact ⟨A1, c1, rfl, HN1.out, HFr.out, HOb.out, _, HFin.out, rfl⟩
end
end Go.Proofs.Ytgeeicpjphdolaa.Net
