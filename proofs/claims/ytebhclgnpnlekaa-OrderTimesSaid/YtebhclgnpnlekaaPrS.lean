/- Rows of names of the call's own; the document's SameIds and Same, by their walks. No condition. -/
import Derived.Test.YtebhclgnpnlekaaPr1
import Derived.Test.YtebhclgnpnlekaaSame
namespace Go.Proofs.Ytebhclgnpnlekaa.Pr
open Go.RowKit Go.Proofs.Ytebhclgnpnlekaa.B Go.Proofs.Ytebhclgnpnlekaa.Cmd Go.Proofs.Ytebhclgnpnlekaa.Agg
theorem info_i : (Try.prog.info? 3).map (fun i => (i.zero, i.size, i.bytes)) = some (some (.int .i64 0), 1, 8) := by kernel_rfl
/-- A row of numbers of the call's own. -/
structure IO (w0 w : World) (v : Value) (xs : List Int) : Prop where
  own : Rep.Own (Rep.int .i64) 3 w0.heap.size nob w v xs
  bel : Below w0.heap.size w0 w
theorem IO.below {w0 w w' : World} {v : Value} {xs : List Int} (h : IO w0 w v xs) (hb : Below w.heap.size w w') : IO w0 w' v xs := ⟨h.own.below hb, h.bel.trans (hb.mono h.bel.size)⟩
theorem wp_pushI {ops : Array Oper} {rest : List Oper} {o : Oper} {a : Act} {Q : Exit → Act → World → Prop} (hgd : o.guard = none) (s x : Operand)
    (ho : o.op = .call { callee := .builtin .append, args := #[s, x], argTypes := #[22, 22] })
    {w w0 : World} (v : Value) (xs : List Int) (y : Int) (hs : a.eval s = v) (hx : a.eval x = .slice (some ⟨w0.heap.size, 0, none⟩) 1 1)
    (HO : IO w w0 v xs) (hw : (Lit.int .i64 y).wf = true) (hl : xs.length ≤ 1000000)
    (h : ∀ A1 c1 w1, Hold (IO w w1 (.slice A1 (xs.length + 1) c1) (xs ++ [y])) → wpList Try.prog ops Q rest (a.put o.dst (.slice A1 (xs.length + 1) c1)) w1) :
    wpList Try.prog ops Q (o :: rest) a (w0.alloc (.cells #[.int .i64 y] 3)) :=
  Rep.wp_push (Rep.int .i64) hgd s x 22 3 (.int .i64 0) 8 ho Try.underlying22 info_i rfl (by decide) (by decide) w.heap.size nob nob v xs y [.int .i64 y] hs hx HO.own ⟨rfl, hw⟩ (fun _ h _ => h.elim) HO.bel.size (by omega)
    (fun A1 c1 w1 G => h A1 c1 w1 ⟨by
      have := G.out.own
      rw [List.length_append, List.length_singleton] at this
      exact ⟨this, HO.bel.trans (G.out.below (fun k hk => (HO.own.block_lt k hk).1) HO.bel.size)⟩⟩)
set_option maxHeartbeats 4000000 in
/-- The document's SameIds, of the same. -/
theorem sameIds_calls (A B : Option Addr) (c d n m : Nat) (xs : List Int) (I J : Nat → Prop) (w : World) (hn : n = xs.length) (hm : m = xs.length) (h : Rep.Row (Rep.int .i64) I w A xs) (h' : Rep.Row (Rep.int .i64) J w B xs) :
    Calls Try.prog 45 #[.slice A n c, .slice B m d] w fun e w' => e = .returned (.bool true) ∧ Hold (Below w.heap.size w w') := by
  subst hn hm
  have HX := Hold.mk h
  have HY := Hold.mk h'
  have hm := h.len_le
  clear h h'
  go_enter Try.func45, Try.ntmps45
  go_wp2
  go_loopw [5] (fun s wr => ∃ i : Nat, i ≤ xs.length ∧ s = .int .i64 (i : Int) ∧ Hold (Below w.heap.size w wr)) (fun s _ => xs.length - (intOf s).toNat)
  case atStart => exact ⟨0, by omega, rfl, ⟨Below.refl _ _⟩⟩
  case round =>
    obtain ⟨i, hi, rfl, HB⟩ := hrel
    by_cases hlt : i < xs.length
    · have l1 : (i : Int) < (xs.length : Int) := by omega
      obtain ⟨ad, cs, rfl, _, _, ⟨rfl, _⟩, hc⟩ := (HX.out.below HB.out).at i hlt
      obtain ⟨ad', cs', rfl, _, _, ⟨rfl, _⟩, hd⟩ := (HY.out.below HB.out).at i hlt
      have c0 : wr.cell? (ad.add i) = some (.int .i64 xs[i]) := by have := hc 0 _ rfl; simpa [Rep.int] using this
      have d0 : wr.cell? (ad'.add i) = some (.int .i64 xs[i]) := by have := hd 0 _ rfl; simpa [Rep.int] using this
      obtain ⟨x, hx⟩ : ∃ x, xs[i] = x := ⟨_, rfl⟩
      rw [hx] at c0 d0
      clear hx hc hd
      go_wp2
      go_quiet (fail)
      go_wp2
      exact ⟨⟨i + 1, by omega, by go_num, ⟨HB.out.trans ((below_drewN _ _).mono HB.out.size)⟩⟩, by simp [intOf]; omega⟩
    · have l1 : ¬ (i : Int) < (xs.length : Int) := by omega
      go_wp2
      go_ret
      exact ⟨rfl, HB⟩
theorem same02_calls (A B : Option Addr) (c c' n n' : Nat) (xs ys : List CmdD) (I J : Nat → Prop) (w : World) (hn : n = xs.length) (hn' : n' = ys.length) (h : Rep.Row cmdRep I w A xs) (h' : Rep.Row cmdRep J w B ys) (b : Bool) (hb : decide (xs = ys) = b) :
    Calls Try.prog 25 #[.slice A n c, .slice B n' c'] w fun e w' => e = .returned (.bool b) ∧ Hold (Below w.heap.size w w') := by
  subst hb
  refine (Rd.same_calls A B c c' n n' xs ys I J w hn hn' h h').mono ?_
  rintro e w' ⟨he, k, rfl⟩
  exact ⟨he, ⟨below_drewN _ _⟩⟩
theorem co_form {l : List CmdD} {w w' : World} {e : Ending} (h : ∃ v, e = .returned v ∧ Hold (CO w w' v l)) : ∃ A1 c1, e = .returned (.slice A1 l.length c1) ∧ Hold (CO w w' (.slice A1 l.length c1) l) := by
  obtain ⟨v, rfl, HO⟩ := h
  obtain ⟨A1, c1, rfl, _, _⟩ := HO.out.form
  exact ⟨A1, c1, rfl, HO⟩
theorem io_form {l : List Int} {w w' : World} {e : Ending} (h : ∃ v, e = .returned v ∧ Hold (IO w w' v l)) : ∃ A1 c1, e = .returned (.slice A1 l.length c1) ∧ Hold (IO w w' (.slice A1 l.length c1) l) := by
  obtain ⟨v, rfl, HO⟩ := h
  obtain ⟨A1, c1, rfl, _, _⟩ := HO.out.own.len_form
  exact ⟨A1, c1, rfl, HO⟩
end Go.Proofs.Ytebhclgnpnlekaa.Pr
