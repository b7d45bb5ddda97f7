/- Names of commands: package preds' Ids, the document's Ids, SameIds, Union, by their walks. No condition. -/
import Derived.Test.YtebhclgnpnlekaaPrUnL
namespace Go.Proofs.Ytebhclgnpnlekaa.Pr
open Go.RowKit Go.Proofs.Ytebhclgnpnlekaa.B Go.Proofs.Ytebhclgnpnlekaa.Cmd Go.Proofs.Ytebhclgnpnlekaa.Agg
open Go.Proofs.Ytebhclgnpnlekaa.Rd (zeroCmd)

theorem info_i : (Try.prog.info? 3).map (fun i => (i.zero, i.size, i.bytes)) = some (some (.int .i64 0), 1, 8) := by kernel_rfl
/-- A row of numbers of the call's own. -/
structure IO (w0 w : World) (v : Value) (xs : List Int) : Prop where
  own : Rep.Own (Rep.int .i64) 3 w0.heap.size nob w v xs
  bel : Below w0.heap.size w0 w
theorem IO.below {w0 w w' : World} {v : Value} {xs : List Int} (h : IO w0 w v xs) (hb : Below w.heap.size w w') : IO w0 w' v xs := ⟨h.own.below hb, h.bel.trans (hb.mono h.bel.size)⟩
theorem wp_pushI {ops : Array Oper} {rest : List Oper} {o : Oper} {a : Act} {Q : Exit → Act → World → Prop} (hgd : o.guard = none) (s x : Operand)
    (ho : o.op = .call { callee := .builtin .append, args := #[s, x], argTypes := #[22, 22] })
    {w w0 : World} (v : Value) (xs : List Int) (y : Int) (hs : a.eval s = v) (hx : a.eval x = .slice (some ⟨w0.heap.size, 0, none⟩) 1 1)
    (HO : IO w w0 v xs) (hw : (Lit.int .i64 y).wf = true) (hl : xs.length ≤ 1000000)
    (h : ∀ A1 c1 w1, Hold (IO w w1 (.slice A1 (xs.length + 1) c1) (xs ++ [y])) → wpList Try.prog ops Q rest (a.put o.dst (.slice A1 (xs.length + 1) c1)) w1) :
    wpList Try.prog ops Q (o :: rest) a (w0.alloc (.cells #[.int .i64 y] 3)) :=
  Rep.wp_push (Rep.int .i64) hgd s x 22 3 (.int .i64 0) 8 ho Try.underlying22 info_i rfl (by decide) (by decide) w.heap.size nob nob v xs y [.int .i64 y] hs hx HO.own ⟨rfl, hw⟩ (fun _ h _ => h.elim) HO.bel.size (by omega)
    (fun A1 c1 w1 G => h A1 c1 w1 ⟨by
      have := G.out.own
      rw [List.length_append, List.length_singleton] at this
      exact ⟨this, HO.bel.trans (G.out.below (fun k hk => (HO.own.block_lt k hk).1) HO.bel.size)⟩⟩)
def idsS (xs : List CmdD) : List Int := xs.map (·.id)
theorem ids_snoc (t : List CmdD) (x : CmdD) : idsS (t ++ [x]) = idsS t ++ [x.id] := by simp [idsS]
set_option maxHeartbeats 4000000 in
set_option maxRecDepth 100000 in
/-- The document's Ids. -/
theorem refIds_calls (A : Option Addr) (c n : Nat) (xs : List CmdD) (I : Nat → Prop) (w : World) (hn : n = xs.length) (h : Rep.Row cmdRep I w A xs) (hl : xs.length ≤ 1000000) :
    Calls Try.prog 47 #[.slice A n c] w fun e w' => ∃ v, e = .returned v ∧ Hold (IO w w' v (idsS xs)) := by
  subst hn
  have HX := Hold.mk h
  have HL := Hold.mk hl
  have hm := h.len_le
  clear h hl
  go_enter Try.func47, Try.ntmps47
  go_wp2
  go_loopw [3, 4] (fun v s wr => ∃ i : Nat, i ≤ xs.length ∧ s = .int .i64 (i : Int) ∧ Hold (IO w wr v (idsS (xs.take i)))) (fun _ s _ => xs.length - (intOf s).toNat)
  case atStart => exact ⟨0, by omega, rfl, ⟨⟨Rep.Own.nil _ _ _ _ _, Below.refl _ _⟩⟩⟩
  case round =>
    obtain ⟨i, hi, rfl, HO⟩ := hrel
    by_cases hlt : i < xs.length
    · have l1 : (i : Int) < (xs.length : Int) := by omega
      obtain ⟨ad, p, rfl, hp, _, ⟨c0, c1, c2, c3, c4, c5, c6, hw⟩⟩ := row_cmd (HX.out.below HO.out.bel) i hlt
      obtain ⟨x, hx⟩ : ∃ x, xs[i] = x := ⟨_, rfl⟩
      rw [hx] at c0 c1 c2 c3 c4 c5 c6 hw
      have HS : Hold (idsS (xs.take (i + 1)) = idsS (xs.take i) ++ [x.id]) := ⟨by rw [List.take_succ_eq_append_getElem hlt, hx, ids_snoc]⟩
      have HLn : Hold ((idsS (xs.take i)).length ≤ 1000000) := ⟨by rw [idsS, List.length_map, List.length_take]; have := HL.out; omega⟩
      have HW := Hold.mk hw.1
      clear hx hw
      obtain ⟨P, hP⟩ : ∃ P, idsS (xs.take i) = P := ⟨_, rfl⟩
      rw [hP] at HO HS HLn
      clear hP
      go_wp2_with (at_builtin; refine wp_pushI rfl (.tmp 11) (.tmp 17) rfl u3 P x.id rfl rfl HO.out HW.out HLn.out ?_; intro A1 c1 w1 HG)
      exact ⟨⟨i + 1, by omega, by go_num, ⟨by rw [HS.out]; exact HG.out⟩⟩, by simp [intOf]; omega⟩
    · obtain rfl : i = xs.length := by omega
      go_wp2
      go_ret
      exact ⟨_, rfl, ⟨by have := HO.out; rwa [List.take_length] at this⟩⟩
set_option maxHeartbeats 4000000 in
set_option maxRecDepth 100000 in
/-- Package preds' Ids. -/
theorem ids_calls (A : Option Addr) (c n : Nat) (xs : List CmdD) (I : Nat → Prop) (w : World) (hn : n = xs.length) (h : Rep.Row cmdRep I w A xs) (hl : xs.length ≤ 1000000) :
    Calls Try.prog 46 #[.slice A n c] w fun e w' => ∃ v, e = .returned v ∧ Hold (IO w w' v (idsS xs)) := by
  subst hn
  have HX := Hold.mk h
  have HL := Hold.mk hl
  have hm := h.len_le
  clear h hl
  go_enter Try.func46, Try.ntmps46
  go_wp2
  go_loopw [3, 9] (fun v s wr => ∃ i : Nat, i ≤ xs.length ∧ s = .int .i64 (i : Int) ∧ Hold (IO w wr v (idsS (xs.take i)))) (fun _ s _ => xs.length - (intOf s).toNat)
  case atStart => exact ⟨0, by omega, rfl, ⟨⟨Rep.Own.lit _ _ _ _ _ (Nat.le_refl _), (Below.refl _ _).alloc (Nat.le_refl _) _⟩⟩⟩
  case round =>
    obtain ⟨i, hi, rfl, HO⟩ := hrel
    by_cases hlt : i < xs.length
    · have l1 : (i : Int) < (xs.length : Int) := by omega
      obtain ⟨ad, p, rfl, hp, _, ⟨c0, c1, c2, c3, c4, c5, c6, hw⟩⟩ := row_cmd (HX.out.below HO.out.bel) i hlt
      obtain ⟨x, hx⟩ : ∃ x, xs[i] = x := ⟨_, rfl⟩
      rw [hx] at c0 c1 c2 c3 c4 c5 c6 hw
      have HS : Hold (idsS (xs.take (i + 1)) = idsS (xs.take i) ++ [x.id]) := ⟨by rw [List.take_succ_eq_append_getElem hlt, hx, ids_snoc]⟩
      have HLn : Hold ((idsS (xs.take i)).length ≤ 1000000) := ⟨by rw [idsS, List.length_map, List.length_take]; have := HL.out; omega⟩
      have HW := Hold.mk hw.1
      clear hx hw
      obtain ⟨P, hP⟩ : ∃ P, idsS (xs.take i) = P := ⟨_, rfl⟩
      rw [hP] at HO HS HLn
      have hB := Bs.nil wr
      clear hP
      go_upto_region 5 with (first
        | (with_reducible refine gateA 45 ?_; refine wpl_alloc zeroC hB rfl ?_; intro W2 g2 hB; simp only [List.nil_append] at hB)
        | (with_reducible refine gateS 45 ?_; refine wpl_store (C' := arr x) isC rfl rfl hB 0 rfl (arr_size _) (arr_size _) (arr_one _) rfl ?_; intro W3 hB; simp only [List.set] at hB; have hc := hB.cell 0 rfl 0))
      have HO5 := Hold.mk (HO.out.below hB.below)
      replace hc : W3.cell? ⟨g2, 0, none⟩ = some (.int .i64 x.id) := hc
      go_wp2_with (at_builtin; refine wp_pushI rfl (.tmp 13) (.tmp 16) rfl u3 P x.id rfl rfl HO5.out HW.out HLn.out ?_; intro A1 c1 w1 HG)
      exact ⟨⟨i + 1, by omega, by go_num, ⟨by rw [HS.out]; exact HG.out⟩⟩, by simp [intOf]; omega⟩
    · obtain rfl : i = xs.length := by omega
      go_wp2
      go_ret
      exact ⟨_, rfl, ⟨by have := HO.out; rwa [List.take_length] at this⟩⟩
set_option maxHeartbeats 4000000 in
/-- The document's SameIds, of the same. -/
theorem sameIds_calls (A B : Option Addr) (c d n m : Nat) (xs : List Int) (I J : Nat → Prop) (w : World) (hn : n = xs.length) (hm : m = xs.length) (h : Rep.Row (Rep.int .i64) I w A xs) (h' : Rep.Row (Rep.int .i64) J w B xs) :
    Calls Try.prog 45 #[.slice A n c, .slice B m d] w fun e w' => e = .returned (.bool true) ∧ Hold (Below w.heap.size w w') := by
  subst hn hm
  have HX := Hold.mk h
  have HY := Hold.mk h'
  have hm := h.len_le
  clear h h'
  go_enter Try.func45, Try.ntmps45
  go_wp2
  go_loopw [5] (fun s wr => ∃ i : Nat, i ≤ xs.length ∧ s = .int .i64 (i : Int) ∧ Hold (Below w.heap.size w wr)) (fun s _ => xs.length - (intOf s).toNat)
  case atStart => exact ⟨0, by omega, rfl, ⟨Below.refl _ _⟩⟩
  case round =>
    obtain ⟨i, hi, rfl, HB⟩ := hrel
    by_cases hlt : i < xs.length
    · have l1 : (i : Int) < (xs.length : Int) := by omega
      obtain ⟨ad, cs, rfl, _, _, ⟨rfl, _⟩, hc⟩ := (HX.out.below HB.out).at i hlt
      obtain ⟨ad', cs', rfl, _, _, ⟨rfl, _⟩, hd⟩ := (HY.out.below HB.out).at i hlt
      have c0 : wr.cell? (ad.add i) = some (.int .i64 xs[i]) := by have := hc 0 _ rfl; simpa [Rep.int] using this
      have d0 : wr.cell? (ad'.add i) = some (.int .i64 xs[i]) := by have := hd 0 _ rfl; simpa [Rep.int] using this
      obtain ⟨x, hx⟩ : ∃ x, xs[i] = x := ⟨_, rfl⟩
      rw [hx] at c0 d0
      clear hx hc hd
      go_wp2
      go_quiet (fail)
      go_wp2
      exact ⟨⟨i + 1, by omega, by go_num, ⟨HB.out.trans ((below_drewN _ _).mono HB.out.size)⟩⟩, by simp [intOf]; omega⟩
    · have l1 : ¬ (i : Int) < (xs.length : Int) := by omega
      go_wp2
      go_ret
      exact ⟨rfl, HB⟩
end Go.Proofs.Ytebhclgnpnlekaa.Pr
