/- Package preds' Union and Same, law 03's has, by their walks. -/
import Derived.Test.YtebhclgnpnlekaaPrOf
import Derived.Test.YtebhclgnpnlekaaVal
namespace Go.Proofs.Ytebhclgnpnlekaa.Pr
open Go.RowKit Go.Proofs.Ytebhclgnpnlekaa.B Go.Proofs.Ytebhclgnpnlekaa.Cmd Go.Proofs.Ytebhclgnpnlekaa.Agg
open Go.Proofs.Ytebhclgnpnlekaa.Rd (zeroCmd)
open Go.Proofs.Ytebhclgnpnlekaa.CatC (cmdsRep)

set_option maxRecDepth 100000 in
theorem union_calls (A : Option Addr) (c n : Nat) (ls : List (List CmdD)) (I : Nat → Prop) (w : World) (hn : n = ls.length) (h : Rep.Row cmdsRep I w A ls) (hl : ls.flatten.length ≤ 900000) :
    Calls Try.prog 34 #[.slice A n c] w (OfSaid ls.flatten w) := by
  subst hn
  have HC := Hold.mk (CatC.concat_calls A c ls.length ls I w rfl h (by omega))
  obtain ⟨l, hll⟩ : ∃ l, ls.flatten = l := ⟨_, rfl⟩
  rw [hll] at HC hl ⊢
  have HL := Hold.mk hl
  clear h hl hll
  go_enter Try.func34, Try.ntmps34
  go_wp2_with fail
  refine HC.out.mono ?_
  rintro e w1 ⟨A1, c1, rfl, HO, HB⟩
  have HOf := Hold.mk (of_calls A1 c1 l.length l _ w1 rfl HO.out.row (HO.out.cap_nil _ _ _ rfl) HL.out)
  go_wp2_with fail
  refine HOf.out.mono ?_
  rintro e w2 ⟨v, rfl, HR⟩
  go_wp2
  go_ret2
  exact ⟨_, rfl, ⟨HR.out.lift HB.out⟩⟩
theorem psame_calls (A B : Option Addr) (c c' n n' : Nat) (xs ys : List CmdD) (I J : Nat → Prop) (w : World) (hn : n = xs.length) (hn' : n' = ys.length) (h : Rep.Row cmdRep I w A xs) (h' : Rep.Row cmdRep J w B ys) :
    Calls Try.prog 35 #[.slice A n c, .slice B n' c'] w fun e w' => e = .returned (.bool (decide (xs = ys))) ∧ Hold (Below w.heap.size w w') := by
  have HE := Hold.mk (Ent.equal_calls A B c c' n n' xs ys I J w hn hn' h h')
  clear h h' hn hn'
  go_enter Try.func35, Try.ntmps35
  go_wp2_with fail
  refine HE.out.mono ?_
  rintro e w1 ⟨rfl, k, rfl⟩
  go_wp2
  go_ret
  exact ⟨rfl, ⟨below_drewN _ _⟩⟩
/-- Two rows in a box. -/
theorem rows2 (w : World) (T : TypeId) (A B : Option Addr) (c d : Nat) (xs ys : List CmdD) {I J : Nat → Prop} (h : Rep.Row cmdRep I w A xs) (h' : Rep.Row cmdRep J w B ys) (hc : xs.length ≤ c) (hd : ys.length ≤ d) (hA : A = none → c = 0) (hB : B = none → d = 0) :
    Rep.Row cmdsRep (fun _ => True) (w.alloc (.cells #[.slice A xs.length c, .slice B ys.length d] T)) (some ⟨w.heap.size, 0, none⟩) [xs, ys] := by
  have m1 : Rep.Row cmdRep (fun _ => True) (w.alloc (.cells #[.slice A xs.length c, .slice B ys.length d] T)) A xs := h.move fun k _ hk => ⟨trivial, Below.heap_alloc w _ k hk⟩
  have m2 : Rep.Row cmdRep (fun _ => True) (w.alloc (.cells #[.slice A xs.length c, .slice B ys.length d] T)) B ys := h'.move fun k _ hk => ⟨trivial, Below.heap_alloc w _ k hk⟩
  have hb : (w.alloc (.cells #[.slice A xs.length c, .slice B ys.length d] T)).heap[w.heap.size]? = some (.cells #[.slice A xs.length c, .slice B ys.length d] T (0, 0)) := Array.getElem?_push_size ..
  refine ⟨by simp [maxLen], fun _ => ⟨_, rfl, trivial, by simp, fun i x hx => ?_⟩⟩
  match i, hx with
  | 0, hx =>
    obtain rfl : xs = x := by simpa using hx
    refine ⟨[.slice A xs.length c], ⟨A, c, rfl, hc, hA, m1⟩, fun j u hu => ?_⟩
    obtain ⟨rfl, rfl⟩ : j = 0 ∧ u = .slice A xs.length c := by
      have := (List.getElem?_eq_some_iff.1 hu).1
      obtain rfl : j = 0 := by simpa using this
      exact ⟨rfl, by simpa using hu.symm⟩
    show World.cell? _ ⟨_, 0, none⟩ = _
    rw [cell_of_row _ _ _ _ _ _ hb]; rfl
  | 1, hx =>
    obtain rfl : ys = x := by simpa using hx
    refine ⟨[.slice B ys.length d], ⟨B, d, rfl, hd, hB, m2⟩, fun j u hu => ?_⟩
    obtain ⟨rfl, rfl⟩ : j = 0 ∧ u = .slice B ys.length d := by
      have := (List.getElem?_eq_some_iff.1 hu).1
      obtain rfl : j = 0 := by simpa using this
      exact ⟨rfl, by simpa using hu.symm⟩
    show World.cell? _ ⟨_, 1, none⟩ = _
    rw [cell_of_row _ _ _ _ _ _ hb]; rfl
  | (i + 2), hx => simp at hx
theorem box_at {w0 w : World} {g : Nat} {x : CmdD} (h : Bs w0 w [(g, 45, arr x)]) : w.cell? ⟨g, 0, none⟩ = some (.int .i64 x.id) ∧ w.cell? ⟨g, 1, none⟩ = some (.int .i64 x.kind) ∧ w.cell? ⟨g, 2, none⟩ = some (.int .i64 x.sym) ∧ w.cell? ⟨g, 3, none⟩ = some (.int .i64 x.tgt) ∧ w.cell? ⟨g, 4, none⟩ = some (.int .i64 x.side) ∧ w.cell? ⟨g, 5, none⟩ = some (.int .i64 x.price) ∧ w.cell? ⟨g, 6, none⟩ = some (.int .i64 x.qty) :=
  ⟨h.cell 0 rfl 0, h.cell 0 rfl 1, h.cell 0 rfl 2, h.cell 0 rfl 3, h.cell 0 rfl 4, h.cell 0 rfl 5, h.cell 0 rfl 6⟩
set_option maxHeartbeats 4000000 in
set_option maxRecDepth 100000 in
theorem has_calls (A : Option Addr) (c n : Nat) (l : List CmdD) (x : CmdD) (I : Nat → Prop) (w : World) (hn : n = l.length) (h : Rep.Row cmdRep I w A l) :
    Calls Try.prog 36 #[.slice A n c, x.v] w fun e w' => e = .returned (.bool (decide (x ∈ l))) ∧ Hold (Below w.heap.size w w') := by
  subst hn
  have H := Hold.mk h
  have hm := h.len_le
  clear h
  obtain ⟨g, hg⟩ : ∃ g, w.heap.size = g := ⟨_, rfl⟩
  obtain ⟨W, hW⟩ : ∃ W, w.alloc (.cells (arr x) 45) = W := ⟨_, rfl⟩
  have hB : Bs w W [(g, 45, arr x)] := by
    have h1 := (Bs.nil w).alloc (arr x) 45
    rw [hW] at h1
    simpa [hg] using h1
  have HB := Hold.mk hB
  clear hB
  go_enter Try.func36, Try.ntmps36
  go_wp2
  go_loopw [5] (fun s wr => ∃ i : Nat, i ≤ l.length ∧ s = .int .i64 (i : Int) ∧ Hold (∀ z ∈ l.take i, z ≠ x) ∧ Hold (Bs w wr [(g, 45, arr x)])) (fun s _ => l.length - (intOf s).toNat)
  case atStart => exact ⟨0, by omega, rfl, ⟨by simp⟩, HB⟩
  case round =>
    obtain ⟨i, hi, rfl, HN, HBr⟩ := hrel
    by_cases hlt : i < l.length
    · have l1 : (i : Int) < (l.length : Int) := by omega
      obtain ⟨ad, p, rfl, hp, _, ⟨c0, c1, c2, c3, c4, c5, c6, _⟩⟩ := row_cmd (H.out.below HBr.out.below) i hlt
      obtain ⟨d0, d1, d2, d3, d4, d5, d6⟩ := box_at HBr.out
      obtain ⟨y, hy⟩ : ∃ x, l[i] = x := ⟨_, rfl⟩
      rw [hy] at c0 c1 c2 c3 c4 c5 c6
      have HY := Hold.mk hy
      clear hy
      by_cases hxy : y = x
      · have HE : Hold (decide (x ∈ l) = true) := ⟨decide_eq_true (by rw [← hxy, ← HY.out]; exact List.getElem_mem _)⟩
        subst hxy
        go_wp2
        go_quiet (fail)
        go_wp2
        go_ret
        exact ⟨by rw [HE.out]; rfl, ⟨(HBr.out.drewN _).below⟩⟩
      · have HN1 : Hold (∀ z ∈ l.take (i + 1), z ≠ x) := ⟨fun z hz => by
          rw [List.take_succ_eq_append_getElem hlt] at hz
          rcases List.mem_append.1 hz with h | h
          · exact HN.out z h
          · rw [List.mem_singleton.1 h, HY.out]; exact hxy⟩
        have hf := Rd.CmdD.first hxy
        clear hxy
        rcases hf with b0 | ⟨b0, b1⟩ | ⟨b0, b1, b2⟩ | ⟨b0, b1, b2, b3⟩ | ⟨b0, b1, b2, b3, b4⟩ | ⟨b0, b1, b2, b3, b4, b5⟩ | ⟨b0, b1, b2, b3, b4, b5, b6⟩
        all_goals
          go_wp2
          go_quiet (fail)
          go_wp2
          exact ⟨⟨i + 1, by omega, by go_num, HN1, ⟨HBr.out.drewN _⟩⟩, by simp [intOf]; omega⟩
    · obtain rfl : i = l.length := by omega
      have HE : Hold (decide (x ∈ l) = false) := ⟨decide_eq_false fun h => by have := HN.out; rw [List.take_length] at this; exact this x h rfl⟩
      go_wp2
      go_ret
      exact ⟨by rw [HE.out]; rfl, ⟨HBr.out.below⟩⟩
end Go.Proofs.Ytebhclgnpnlekaa.Pr
