/- slices.Grow of nothing, and slices.Concat of rows of commands, by their walks. -/
import Derived.Test.YtebhclgnpnlekaaPr1
import Derived.Lib.AppendZerosOnto
import Derived.Lib.SliceRun
import Derived.Lib.Walk
import Derived.StillTailTactics
namespace Go.Proofs.Ytebhclgnpnlekaa.CatC
open Go.RowKit Go.Proofs.Ytebhclgnpnlekaa.B Go.Proofs.Ytebhclgnpnlekaa.Cmd
open Go.Proofs.Ytebhclgnpnlekaa.Rd (cmd_zs cmd_sz0)
abbrev zc : Value := .agg #[.int .i64 0, .int .i64 0, .int .i64 0, .int .i64 0, .int .i64 0, .int .i64 0, .int .i64 0]
theorem zeroCells_size (z : Array Value) : ∀ n, (Builtin.zeroCells z n).size = n * z.size := by
  intro n
  simp [Builtin.zeroCells, Array.size_flatten]
set_option maxHeartbeats 4000000 in
set_option maxRecDepth 100000 in
theorem grow_nil (n : Nat) (w : World) (hn : n ≤ 1000000000) : Calls Try.prog 139 #[.slice none 0 0, .int .i64 n] w fun r w' => ∃ A c, r = .returned (.slice A 0 c) ∧ (A = none → c = 0) ∧ Hold (Rep.Own cmdRep 45 w.heap.size nob w' (.slice A 0 c) []) ∧ Hold (Below w.heap.size w w') := by
  have h1 : ¬ ((n : Int) < 0) := by omega
  cases n with
  | zero =>
    go_enter Try.func139, Try.ntmps139
    go_wp2
    go_ret
    exact ⟨none, 0, rfl, fun _ => rfl, ⟨Rep.Own.nil _ _ _ _ _⟩, ⟨Below.refl _ _⟩⟩
  | succ m =>
    obtain ⟨k, hk⟩ : ∃ k, m + 1 = k := ⟨_, rfl⟩
    rw [hk] at hn h1 ⊢
    have hk0 : 0 < k := by omega
    have hk1 : (0 : Int) < (k : Int) := by omega
    cases hq : Try.prog.info? 45 with
    | none => have := info_cmd; rw [hq] at this; simp at this
    | some i0 =>
      have hi := info_cmd
      rw [hq] at hi
      simp only [Option.map_some, Option.some.injEq, Prod.mk.injEq] at hi
      obtain ⟨hz0, hs0, hb0⟩ := hi
      have hrun := fun ty => Lib.run_append_grow_zeros (P := Try.prog) w 23 3 ty 45 i0 zc .i64 .i64 Try.underlying23 Try.underlying3 hq hz0 none 0 0 [] (run_firstCells_none _ _ _ _ _) k hk0 (by omega) (by omega) (by omega) (by rw [hb0]; omega) (by rw [hb0]; exact growslice_fits (by omega) (by omega))
      simp only [Nat.zero_add] at hrun
      have hG := grownCap_ge w k 0 45
      have hM := grownCap_le_maxLen w k 0 45 (by unfold maxLen; omega)
      obtain ⟨G, hGe⟩ : ∃ G, grownCap w k 0 45 = G := ⟨_, rfl⟩
      obtain ⟨g, hg⟩ : ∃ g, w.heap.size = g := ⟨_, rfl⟩
      rw [hGe] at hrun hG hM
      obtain ⟨cells, hcells⟩ : ∃ c, #[] ++ Builtin.zeroCells zc.cells k ++ Builtin.zeroCells zc.cells (G - k) = c := ⟨_, rfl⟩
      have hcs : cells.size = G * 7 := by rw [← hcells]; simp [zeroCells_size, Value.cells]; omega
      rw [hcells] at hrun
      obtain ⟨W, hW⟩ : ∃ W, w.drew.alloc (.cells cells 45) = W := ⟨_, rfl⟩
      have hbel : Below w.heap.size w W := by rw [← hW]; exact (show Below w.heap.size w w.drew from ⟨rfl, rfl, rfl, Nat.le_refl _, fun _ _ => rfl⟩).alloc (Nat.le_refl _) _
      have hown : Rep.Own cmdRep 45 w.heap.size nob W (.slice (some ⟨g, 0, none⟩) 0 G) [] := by
        refine ⟨[], ⟨by simp, .inr ⟨g, G, cells, rfl, by omega, ?_, by simp, hM, by rw [hcs]; simp [cmdRep_sz], by simp⟩⟩, fun i x h => by simp at h⟩
        rw [← hW, ← hg]; exact Array.getElem?_push_size ..
      rw [hW, hg] at hrun
      have HB := Hold.mk hbel
      have HO := Hold.mk hown
      have hG63 : (G : Int) ≤ 9223372036854775807 := by unfold maxLen at hM; omega
      have hkG : (k : Int) ≤ (G : Int) := by omega
      clear hbel hown hcells hcs hW hGe hM hz0 hs0 hb0 hq
      go_enter Try.func139, Try.ntmps139
      go_wp2_with (at_builtin; refine Lib.wpList_append_run _ rfl _ _ _ _ rfl _ _ rfl rfl _ _ (hrun _) ?_)
      go_ret
      exact ⟨some ⟨g, 0, none⟩, G, rfl, fun h => by simp at h, ⟨by have := HO.out; rw [hg] at this; exact this⟩, ⟨by have := HB.out; rw [hg] at this; exact this⟩⟩
abbrev cmdsRep : Rep (List CmdD) := (Rep.slice cmdRep)
theorem row_flatV {J I : Nat → Prop} {w : World} {A : Option Addr} {xs : List CmdD} (h : Rep.Row cmdRep I w A xs) : Rep.RowV cmdRep J w A xs := by
  obtain ⟨h1, h2⟩ := h.v
  refine ⟨h1, fun h0 => ?_⟩
  obtain ⟨ad, e, hc⟩ := h2 h0
  exact ⟨ad, e, fun i x hx => by obtain ⟨cs, hk, hcs⟩ := hc i x hx; exact ⟨cs, flat_cmd hk, hcs⟩⟩
/-- A row of rows: what its element is. -/
theorem row_cmds {I : Nat → Prop} {w : World} {A : Option Addr} {ls : List (List CmdD)} (h : Rep.Row cmdsRep I w A ls) (i : Nat) (hi : i < ls.length) : ∃ ad A1 c1, A = some ad ∧ w.cell? (ad.add i) = some (.slice A1 ls[i].length c1) ∧ ls[i].length ≤ c1 ∧ (A1 = none → c1 = 0) ∧ Rep.Row cmdRep I w A1 ls[i] := by
  obtain ⟨ad, cs, e, _, _, ⟨A1, c1, rfl, hl, hn, hr⟩, hc⟩ := h.at i hi
  exact ⟨ad, A1, c1, e, by have := hc 0 _ rfl; simpa [cmdsRep, Rep.slice] using this, hl, hn, hr⟩
theorem flat_take_succ {ls : List (List CmdD)} {i : Nat} (hi : i < ls.length) : (ls.take (i + 1)).flatten = (ls.take i).flatten ++ ls[i] := by
  rw [List.take_succ_eq_append_getElem hi, List.flatten_append]; simp
theorem flat_take_le {ls : List (List CmdD)} (i : Nat) : (ls.take i).flatten.length ≤ ls.flatten.length := by
  have h : ls.flatten = (ls.take i).flatten ++ (ls.drop i).flatten := by rw [← List.flatten_append, List.take_append_drop]
  rw [h, List.length_append]; omega
set_option maxHeartbeats 8000000 in
set_option maxRecDepth 100000 in
theorem concat_calls (A : Option Addr) (c n : Nat) (ls : List (List CmdD)) (I : Nat → Prop) (w : World) (hn : n = ls.length) (h : Rep.Row cmdsRep I w A ls) (hl : ls.flatten.length ≤ 1000000000) :
    Calls Try.prog 87 #[.slice A n c] w fun r w' => ∃ A1 c1, r = .returned (.slice A1 ls.flatten.length c1) ∧ Hold (Rep.Own cmdRep 45 w.heap.size nob w' (.slice A1 ls.flatten.length c1) ls.flatten) ∧ Hold (Below w.heap.size w w') := by
  subst hn
  have H := Hold.mk h
  have HL := Hold.mk hl
  have hm := h.len_le
  clear h hl
  go_enter Try.func87, Try.ntmps87
  go_wp2
  go_loopw [3, 11] (fun u v wr => ∃ i : Nat, i ≤ ls.length ∧ v = .int .i64 (i : Int) ∧ u = .int .i64 ((ls.take i).flatten.length : Int) ∧ w = wr) (fun _ v _ => ls.length - (intOf v).toNat)
  case atStart => exact ⟨0, by omega, rfl, rfl, rfl⟩
  case round =>
    obtain ⟨i, hi, rfl, rfl, rfl⟩ := hrel
    by_cases hlt : i < ls.length
    · have l1 : (i : Int) < (ls.length : Int) := by omega
      obtain ⟨ad, A1, c1, rfl, hc, _, _, _⟩ := row_cmds H.out i hlt
      obtain ⟨xs, hx⟩ : ∃ x, ls[i] = x := ⟨_, rfl⟩
      rw [hx] at hc
      obtain ⟨q, hq⟩ : ∃ q, (ls.take i).flatten.length = q := ⟨_, rfl⟩
      have hq1 : (ls.take (i + 1)).flatten.length = q + xs.length := by rw [flat_take_succ hlt, List.length_append, hx, hq]
      have hq2 := flat_take_le (ls := ls) (i + 1)
      rw [hq1] at hq2
      have HQ1 := Hold.mk hq1
      have t1 : ¬ (q : Int) + (xs.length : Int) < 0 := by omega
      have t2 : (q : Int) + (xs.length : Int) ≤ 1000000000 := by have := HL.out; omega
      have t3 : IntKind.i64.wrap ((q : Int) + (xs.length : Int)) = (q : Int) + (xs.length : Int) := by rw [IntKind.wrap_i64]; omega
      rw [hq]
      clear hq hq1 hq2 hx
      go_wp2
      exact ⟨⟨i + 1, by omega, by go_num, by rw [HQ1.out]; go_num, by first | rfl | trivial⟩, by simp [intOf]; omega⟩
    · obtain rfl : i = ls.length := by omega
      obtain ⟨q, hq⟩ : ∃ q, ls.flatten.length = q := ⟨_, rfl⟩
      rw [List.take_length, hq]
      have hq0 : q ≤ 1000000000 := by rw [← hq]; exact HL.out
      have HQ := Hold.mk hq
      clear hq
      go_wp2_with fail
      refine (grow_nil q _ hq0).mono ?_
      rintro r w1 ⟨B, d, rfl, hBn, HO, HB⟩
      have HBn := Hold.mk hBn
      clear hBn
      go_wp2_with fail
      go_loopw [6, 27] (fun u v wr => ∃ i : Nat, i ≤ ls.length ∧ v = .int .i64 (i : Int) ∧ (∃ A1 c1, u = .slice A1 (ls.take i).flatten.length c1 ∧ Hold (Rep.Own cmdRep 45 w.heap.size nob wr (.slice A1 (ls.take i).flatten.length c1) (ls.take i).flatten)) ∧ Hold (Below w.heap.size w wr)) (fun _ v _ => ls.length - (intOf v).toNat)
      case atStart => exact ⟨0, by omega, rfl, ⟨B, d, rfl, HO⟩, HB⟩
      case round =>
        clear HO HB HBn
        obtain ⟨i, hi, rfl, ⟨A1, c1, rfl, HO⟩, HB⟩ := hrel
        by_cases hlt : i < ls.length
        · have l1 : (i : Int) < (ls.length : Int) := by omega
          obtain ⟨ad, A2, c2, rfl, hc, _, hn2, hr2⟩ := row_cmds (H.out.below HB.out) i hlt
          obtain ⟨xs, hx⟩ : ∃ x, ls[i] = x := ⟨_, rfl⟩
          rw [hx] at hc hr2
          obtain ⟨zs, hz⟩ : ∃ z, (ls.take i).flatten = z := ⟨_, rfl⟩
          rw [hz] at HO
          have hz1 : (ls.take (i + 1)).flatten = zs ++ xs := by rw [flat_take_succ hlt, hx, hz]
          have hz2 := flat_take_le (ls := ls) (i + 1)
          rw [hz1, List.length_append] at hz2
          have HZ := Hold.mk hz1
          have HL2 : Hold (zs.length + xs.length ≤ 1000000000) := ⟨by have := HL.out; omega⟩
          have HR := Hold.mk (row_flatV (J := nob) hr2)
          have HN := Hold.mk hn2
          rw [hz]
          clear hz hz1 hz2 hx hr2 hn2
          go_wp2_with (at_builtin; refine Rep.wp_more cmdRep rfl (.tmp 31) (.tmp 32) 23 45 zc 56 rfl Try.underlying23 info_cmd cmd_zs cmd_sz0 (by decide) w.heap.size nob nob _ zs xs _ A2 _ c2 rfl rfl rfl rfl HO.out HR.out (fun _ h _ => h.elim) HN.out ?e1 ?e2 ?_)
          case e1 => exact HB.out.size
          case e2 => have := HL2.out; omega
          intro A4 c4 w4 HG4
          have V4 : Hold (Below w.heap.size wr w4) := ⟨HG4.out.below (fun k hk => (HO.out.block_lt k hk).1) HB.out.size⟩
          go_wp2
          exact ⟨⟨i + 1, by omega, by go_num, ⟨A4, c4, by rw [HZ.out]; simp, ⟨by rw [HZ.out]; exact HG4.out.own⟩⟩, ⟨HB.out.trans V4.out⟩⟩, by simp [intOf]; omega⟩
        · obtain rfl : i = ls.length := by omega
          rw [List.take_length] at HO ⊢
          go_wp2
          go_ret
          exact ⟨A1, c1, rfl, HO, HB⟩
end Go.Proofs.Ytebhclgnpnlekaa.CatC
