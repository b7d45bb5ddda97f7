/- Readers of bytes: package octet's, and the document's: how they stand in memory, and what Read, fail, Err, Rest and Num leave, by their walks. -/
import Derived.Test.YtebhclgnpnlekaaPutCmds
import Derived.Lib.SliceRun
namespace Go.Proofs.Ytebhclgnpnlekaa.Rd
open Go.RowKit Go.Proofs.Ytebhclgnpnlekaa.B Go.Proofs.Ytebhclgnpnlekaa.Cmd
open Go.Proofs.Ytebhclgnpnlekaa.Oct (info_u8)

/-- A reader at block g, of type T: what is left, and what went wrong. -/
def RAt (T : TypeId) (g : Nat) (J : Nat → Prop) (w : World) (st : List Int × Int) : Prop :=
  ∃ A c, w.heap[g]? = some (.cells #[.slice A st.1.length c, .int .i64 st.2] T (0, 0)) ∧ st.1.length ≤ c ∧ (A = none → c = 0) ∧ Rep.Row (Rep.int .u8) (fun k => k ≠ g ∧ J k) w A st.1
/-- Only it may have turned. -/
abbrev Its (g : Nat) : Nat → Prop := fun k => k = g
section
variable {T : TypeId} {g : Nat} {J : Nat → Prop} {w w' : World} {st : List Int × Int}
theorem RAt.lt (h : RAt T g J w st) : g < w.heap.size := by obtain ⟨A, c, h, _⟩ := h; exact (Array.getElem?_eq_some_iff.1 h).1
theorem RAt.below (h : RAt T g J w st) (hb : Below w.heap.size w w') : RAt T g J w' st := by
  obtain ⟨A, c, h1, h2, h3, h4⟩ := h
  exact ⟨A, c, (hb.block g (Array.getElem?_eq_some_iff.1 h1).1).trans h1, h2, h3, h4.below hb⟩
theorem RAt.fr {M : Nat → Prop} (h : RAt T g J w st) (hf : Fr M w w') (hg : ¬ M g) (hm : ∀ k, M k → k < w.heap.size → False) : RAt T g J w' st := by
  obtain ⟨A, c, h1, h2, h3, h4⟩ := h
  exact ⟨A, c, (hf.block g (Array.getElem?_eq_some_iff.1 h1).1 hg).trans h1, h2, h3, h4.move fun k hk hlt => ⟨hk, hf.block k hlt (fun hm' => hm k hm' hlt)⟩⟩
end
theorem blk_set (w : World) (g i : Nat) (u : Value) {cs : Array Value} {t : TypeId} (h : w.heap[g]? = some (.cells cs t (0, 0))) : (w.setCell ⟨g, i, none⟩ u).heap[g]? = some (.cells (cs.setIfInBounds i u) t (0, 0)) := heap_setCell_same w g i cs t u h

/-- What comes. -/
inductive Dec where
  | ok (n : Int) (rest : List Int)
  | cut
  | form
def dec : Nat → Int → Int → List Int → Dec
  | i, _, _, [] => if i < 6 then .cut else .form
  | i, n, u, x :: xs => if 6 ≤ i then .form else if x < 128 then (if (0 < i ∧ x = 0) ∨ 1099511627776 < n + x * u then .form else .ok (n + x * u) xs) else dec (i + 1) (n + (x - 128) * u) (u * 128) xs
/-- A number that is taken, and what is left. -/
def numS (st : List Int × Int) : Int × (List Int × Int) := if st.2 ≠ 0 then (0, st) else match dec 0 0 1 st.1 with
  | .ok n r => (n, (r, 0))
  | .cut => (0, ([], 3))
  | .form => (0, ([], 2))

set_option maxHeartbeats 1000000 in
theorem clone_calls (A : Option Addr) (c n : Nat) (bs : List Int) (I : Nat → Prop) (w : World) (hlen : n = bs.length) (hr : Rep.Row (Rep.int .u8) I w A bs) (hn : A = none → c = 0) (hl : bs.length ≤ 1000000000) :
    Calls Try.prog 83 #[.slice A n c] w fun e w' => ∃ A1 c1, e = .returned (.slice A1 bs.length c1) ∧
      Hold (Rep.Own (Rep.int .u8) 5 w.heap.size nob w' (.slice A1 bs.length c1) bs) ∧ Hold (Below w.heap.size w w') := by
  subst hlen
  have qT : ∀ (w : World) (a : Option Addr) (n c n' c' : Nat), (binOp .eql 25 (.slice a n c) (.slice none n' c')).run Try.prog w = .ok (.bool a.isNone) w := fun w a n c n' c' => Lib.run_eql_slice_nil w _ _ a n c n' c' Try.underlying25
  cases A with
  | none =>
    obtain rfl := hn rfl
    have h0 : bs = [] := by
      rcases bs with _ | ⟨b, bs⟩
      · rfl
      · obtain ⟨ad, h, _⟩ := hr.2 (by simp)
        cases h
    subst h0
    clear hr hn hl
    go_enter Try.func83, Try.ntmps83
    go_wp2
    go_ret
    exact ⟨none, 0, rfl, ⟨Rep.Own.nil _ _ _ _ _⟩, ⟨Below.refl _ _⟩⟩
  | some ad =>
    have HR := Hold.mk hr
    have HL := Hold.mk hl
    clear hr hn hl
    go_enter Try.func83, Try.ntmps83
    go_wp2_with (at_builtin; refine Rep.wp_copy (Rep.int .u8) rfl _ _ 25 5 (.int .u8 0) 1 rfl Try.underlying25 info_u8 rfl (by decide) (by decide) I bs (some ad) bs.length c rfl rfl rfl HR.out (fun h => by cases h) ?c1 ?_)
    case c1 => have := HL.out; omega
    intro A1 c1 w1 HO HC HB
    go_wp2
    go_ret
    exact ⟨A1, c1, rfl, ⟨HO.out.flat nob (Rep.flat_int _)⟩, HB⟩
theorem read_calls (A : Option Addr) (c n : Nat) (bs : List Int) (I : Nat → Prop) (w : World) (hlen : n = bs.length) (hr : Rep.Row (Rep.int .u8) I w A bs) (hn : A = none → c = 0) (hl : bs.length ≤ 1000000000) :
    Calls Try.prog 20 #[.slice A n c] w fun e w' => ∃ g, e = .returned (.pointer (some ⟨g, 0, none⟩)) ∧ Hold (w.heap.size ≤ g) ∧ Hold (RAt 131 g (fun k => w.heap.size ≤ k) w' (bs, 0)) ∧ Hold (Below w.heap.size w w') := by
  have HR := Hold.mk hr
  have HN := Hold.mk hn
  have HL := Hold.mk hl
  have HLn := Hold.mk hlen
  clear hr hn hl hlen
  go_enter Try.func20, Try.ntmps20
  go_wp2_with fail
  refine (clone_calls A c n bs I w HLn.out HR.out HN.out HL.out).mono ?_
  rintro e w1 ⟨A1, c1, rfl, HO, HB⟩
  go_wp2
  go_ret
  obtain ⟨_, _, e, hl, hn⟩ := HO.out.len_form
  injection e with _ _ e2
  refine ⟨w1.heap.size, rfl, ⟨HB.out.size⟩, ⟨A1, c1, ?_, by show bs.length ≤ c1; omega, HO.out.cap_nil _ _ _ rfl, (HO.out.alloc _).row.move fun k hk _ => ⟨?_, rfl⟩⟩, ⟨HB.out.alloc HB.out.size _⟩⟩
  · show (w1.heap.push _)[w1.heap.size]? = _; simp
  · have := HO.out.block_lt k (hk.resolve_left (fun h => h.elim)); exact ⟨by omega, this.1⟩
/-- Nothing more, for some reason. -/
theorem fail_block {T : TypeId} {g : Nat} {J : Nat → Prop} {w : World} {st : List Int × Int} (h : RAt T g J w st) (e : Int) : RAt T g J ((w.setCell ⟨g, 0, none⟩ (.slice none 0 0)).setCell ⟨g, 1, none⟩ (.int .i64 e)) ([], e) := by
  obtain ⟨A, c, h1, _⟩ := h
  exact ⟨none, 0, blk_set _ _ 1 _ (blk_set _ _ 0 _ h1), Nat.le_refl _, fun _ => rfl, Rep.Row.nil _ _ _ _⟩
theorem its_two {g : Nat} {w : World} (u v : Value) : Fr (Its g) w ((w.setCell ⟨g, 0, none⟩ u).setCell ⟨g, 1, none⟩ v) := ((Fr.refl (Its g) w).setCell (p := ⟨g, 0, none⟩) (.inl rfl) _).setCell (p := ⟨g, 1, none⟩) (.inl rfl) _
theorem fail_calls (g : Nat) (J : Nat → Prop) (w : World) (rest : List Int) (h : RAt 131 g J w (rest, 0)) (e : Int) :
    Calls Try.prog 84 #[.pointer (some ⟨g, 0, none⟩), .int .i64 e] w fun r w' => r = .returned (.tuple #[]) ∧ Hold (RAt 131 g J w' ([], e)) ∧ Hold (Fr (Its g) w w') := by
  have HF := Hold.mk (fail_block h e)
  obtain ⟨A, c, hb, _⟩ := h
  have c0 : w.cell? ⟨g, 0, none⟩ = some (.slice A rest.length c) := by simp [World.cell?, hb]
  have c1 : w.cell? ⟨g, 1, none⟩ = some (.int .i64 0) := by simp [World.cell?, hb]
  have f0 : w.frozen? ⟨g, 0, none⟩ = false := by simp [World.frozen?, hb]
  have f1 : w.frozen? ⟨g, 1, none⟩ = false := by simp [World.frozen?, hb]
  clear hb
  go_enter Try.func84, Try.ntmps84
  go_wp2
  go_end0
  exact ⟨rfl, HF, ⟨its_two _ _⟩⟩
theorem fail_again (g : Nat) (J : Nat → Prop) (w : World) (st : List Int × Int) (h : RAt 131 g J w st) (h0 : st.2 ≠ 0) (e : Int) :
    Calls Try.prog 84 #[.pointer (some ⟨g, 0, none⟩), .int .i64 e] w fun r w' => r = .returned (.tuple #[]) ∧ w = w' := by
  obtain ⟨A, c, hb, _⟩ := h
  have c1 : w.cell? ⟨g, 1, none⟩ = some (.int .i64 st.2) := by simp [World.cell?, hb]
  have t1 : (st.2 == 0) = false := by simp [h0]
  clear hb h0
  go_enter Try.func84, Try.ntmps84
  go_wp2
  go_end0
  exact ⟨rfl, rfl⟩
theorem refFail_calls (g : Nat) (J : Nat → Prop) (w : World) (st : List Int × Int) (h : RAt 40 g J w st) (e : Int) :
    Calls Try.prog 85 #[.pointer (some ⟨g, 0, none⟩), .int .i64 e] w fun r w' => r = .returned (.tuple #[]) ∧ Hold (RAt 40 g J w' ([], e)) ∧ Hold (Fr (Its g) w w') := by
  have HF := Hold.mk (fail_block h e)
  obtain ⟨A, c, hb, _⟩ := h
  have c0 : w.cell? ⟨g, 0, none⟩ = some (.slice A st.1.length c) := by simp [World.cell?, hb]
  have c1 : w.cell? ⟨g, 1, none⟩ = some (.int .i64 st.2) := by simp [World.cell?, hb]
  have f0 : w.frozen? ⟨g, 0, none⟩ = false := by simp [World.frozen?, hb]
  have f1 : w.frozen? ⟨g, 1, none⟩ = false := by simp [World.frozen?, hb]
  clear hb
  go_enter Try.func85, Try.ntmps85
  go_wp2
  go_end0
  exact ⟨rfl, HF, ⟨its_two _ _⟩⟩
theorem err_calls (g : Nat) (J : Nat → Prop) (w : World) (st : List Int × Int) (h : RAt 131 g J w st) : Calls Try.prog 32 #[.pointer (some ⟨g, 0, none⟩)] w fun r w' => r = .returned (.int .i64 st.2) ∧ w = w' := by
  obtain ⟨A, c, hb, _⟩ := h
  have c1 : w.cell? ⟨g, 1, none⟩ = some (.int .i64 st.2) := by simp [World.cell?, hb]
  clear hb
  go_enter Try.func32, Try.ntmps32
  go_wp2
  go_ret
  exact ⟨rfl, rfl⟩
theorem err_nil (w : World) : Calls Try.prog 32 #[.pointer none] w fun r w' => r = .returned (.int .i64 1) ∧ w = w' := by
  go_enter Try.func32, Try.ntmps32
  go_wp2
  go_ret
  exact ⟨rfl, rfl⟩
theorem rest_nil (w : World) : Calls Try.prog 31 #[.pointer none] w fun r w' => r = .returned (.slice none 0 0) ∧ w = w' := by
  go_enter Try.func31, Try.ntmps31
  go_wp2
  go_ret
  exact ⟨rfl, rfl⟩
theorem rest_calls (g : Nat) (J : Nat → Prop) (w : World) (st : List Int × Int) (h : RAt 131 g J w st) (hl : st.1.length ≤ 1000000000) : Calls Try.prog 31 #[.pointer (some ⟨g, 0, none⟩)] w fun r w' => ∃ A1 c1, r = .returned (.slice A1 st.1.length c1) ∧
      Hold (Rep.Own (Rep.int .u8) 5 w.heap.size nob w' (.slice A1 st.1.length c1) st.1) ∧ Hold (Below w.heap.size w w') := by
  have H := Hold.mk h
  obtain ⟨A, c, hb, _, hn, hr⟩ := h
  have c1 : w.cell? ⟨g, 0, none⟩ = some (.slice A st.1.length c) := by simp [World.cell?, hb]
  have HR := Hold.mk hr
  have HN := Hold.mk hn
  have HL := Hold.mk hl
  clear hb hr hn hl
  go_enter Try.func31, Try.ntmps31
  go_wp2_with fail
  refine (clone_calls A c _ st.1 _ w rfl HR.out HN.out HL.out).mono ?_
  rintro e w1 ⟨A1, c1, rfl, HO, HB⟩
  go_wp2
  go_ret
  exact ⟨A1, c1, rfl, HO, HB⟩
end Go.Proofs.Ytebhclgnpnlekaa.Rd
