/- The closure of package check's late, and its slices.IndexFunc over marks, by their walks. No condition. -/
import Derived.Test.YtebhclgnpnlekaaChkI
namespace Go.Proofs.Ytebhclgnpnlekaa.Chk
open Go.RowKit Go.Proofs.Ytebhclgnpnlekaa.B Go.Proofs.Ytebhclgnpnlekaa.Cmd Go.Proofs.Ytebhclgnpnlekaa.Agg Go.Proofs.Ytebhclgnpnlekaa.Ent Go.Proofs.Ytebhclgnpnlekaa.Ord
set_option maxHeartbeats 4000000 in
set_option maxRecDepth 100000 in
theorem late1_calls (x : ER) (id : Int) (B : Nat) (w : World) (hB : B < w.heap.size) (hc : w.cell? ⟨B, 0, none⟩ = some (.int .i64 id)) (b : Bool) (h : (x.c.id == id) = b) :
    Calls Try.prog 150 #[.agg (mk x), .pointer (some ⟨B, 0, none⟩)] w fun e w' => e = .returned (.bool b) ∧ Hold (Below w.heap.size w w') := by
  obtain ⟨h1, hh1⟩ : ∃ b, w.heap.size = b := ⟨_, rfl⟩
  obtain ⟨W, hW⟩ : ∃ W, w.alloc (.cells (mk x) 177) = W := ⟨_, rfl⟩
  have hD : Bs w W [(h1, 177, mk x)] := by
    have h2 := (Bs.nil w).alloc (mk x) 177
    rw [hW] at h2
    simpa [hh1] using h2
  have a0 : W.cell? ⟨h1, 0, none⟩ = some (.int .i64 x.c.id) := hD.cell 0 rfl 0
  have c0 : W.cell? ⟨B, 0, none⟩ = some (.int .i64 id) := (below_cell hD.below (p := ⟨B, 0, none⟩) hB).trans hc
  have HBl := Hold.mk hD.below
  obtain ⟨ix, hix⟩ : ∃ i, x.c.id = i := ⟨_, rfl⟩
  rw [hix] at a0 h
  clear hD hc hix
  go_enter Try.func150, Try.ntmps150
  go_wp2
  go_ret
  exact ⟨by first | rfl | (rw [← h]; rfl), HBl⟩
theorem row_mk {I : Nat → Prop} {w : World} {A : Option Addr} {xs : List QE} (h : Rep.Row markRep I w A xs) (i : Nat) (hi : i < xs.length) : ∃ ad p, A = some ad ∧ ad.add (i * 9) = p ∧ p.block < w.heap.size ∧ (∀ (j : Nat) (u : Value), (mk xs[i].er)[j]? = some u → w.cell? (p.add j) = some u) ∧ QF I w xs[i] := by
  obtain ⟨ad, cs, e, _, hlt, ⟨rfl, hq⟩, hc⟩ := h.at i hi
  refine ⟨ad, _, e, rfl, by rw [Rep.add_block]; exact hlt, fun j u hu => ?_, hq⟩
  rw [Rep.add_add]
  exact hc j u (by simpa using hu)
set_option maxHeartbeats 4000000 in
set_option maxRecDepth 100000 in
/-- A name's place among marks. -/
theorem indexM_calls (A : Option Addr) (c : Nat) (l : List QE) (id : Int) (B : Nat) (I : Nat → Prop) (w : World) (hb : B < w.heap.size) (hc : w.cell? ⟨B, 0, none⟩ = some (.int .i64 id)) (h : Rep.Row markRep I w A l) :
    Calls Try.prog 149 #[.slice A l.length c, .func (.func 150) #[] #[.pointer (some ⟨B, 0, none⟩)]] w fun e w' => e = .returned (.int .i64 (firstOf (isId id) l)) ∧ Hold (Below w.heap.size w w') := by
  have H := Hold.mk h
  have hm := h.len_le
  have HC := Hold.mk hc
  have Hb := Hold.mk hb
  clear h hc
  go_enter Try.func149, Try.ntmps149
  go_wp2
  go_loopw [8] (fun s wr => ∃ i : Nat, i ≤ l.length ∧ s = .int .i64 (i : Int) ∧ Hold (∀ x ∈ l.take i, isId id x = false) ∧ Hold (Below w.heap.size w wr)) (fun s _ => l.length - (intOf s).toNat)
  case atStart => exact ⟨0, by omega, rfl, ⟨by simp⟩, ⟨Below.refl _ _⟩⟩
  case round =>
    obtain ⟨i, hi, rfl, HA, HB⟩ := hrel
    by_cases hlt : i < l.length
    · have l1 : (i : Int) < (l.length : Int) := by omega
      obtain ⟨ad, p, rfl, hp, _, hQ, _⟩ := row_mk (H.out.below HB.out) i hlt
      obtain ⟨e, he⟩ : ∃ x, l[i] = x := ⟨_, rfl⟩
      rw [he] at hQ
      have HX := Hold.mk he
      obtain ⟨x, pe⟩ := e
      replace hQ : ∀ (j : Nat) (u : Value), (mk x)[j]? = some u → wr.cell? (p.add j) = some u := hQ
      clear he
      obtain ⟨b, hbb⟩ : ∃ b, (x.c.id == id) = b := ⟨_, rfl⟩
      have HL := Hold.mk (late1_calls x id B wr (Nat.lt_of_lt_of_le Hb.out HB.out.size) ((World.cell?_of_block (HB.out.block B Hb.out)).trans HC.out) b hbb)
      have HBx : Hold (isId id ⟨x, pe⟩ = b) := ⟨hbb⟩
      clear hbb
      cases b
      · have HA1 : Hold (∀ x ∈ l.take (i + 1), isId id x = false) := ⟨mem_take_succ hlt HA.out (by rw [HX.out, HBx.out])⟩
        go_wp2_with (first
          | (with_reducible refine gateL 177 ?_; refine wpl_loadO isM rfl (mk_size x) hQ rfl ?_)
          | (refine HL.out.mono ?_; rintro r w1 ⟨rfl, hb1⟩))
        exact ⟨⟨i + 1, by omega, by go_num, HA1, ⟨HB.out.trans (hb1.out.mono HB.out.size)⟩⟩, by simp [intOf]; omega⟩
      · go_wp2_with (first
          | (with_reducible refine gateL 177 ?_; refine wpl_loadO isM rfl (mk_size x) hQ rfl ?_)
          | (refine HL.out.mono ?_; rintro r w1 ⟨rfl, hb1⟩))
        go_ret
        exact ⟨by rw [firstOf_at hlt HA.out (by rw [HX.out, HBx.out])]; rfl, ⟨HB.out.trans (hb1.out.mono HB.out.size)⟩⟩
    · obtain rfl : i = l.length := by omega
      have HN : Hold (firstOf (isId id) l = -1) := ⟨firstOf_none (by have := HA.out; rw [List.take_length] at this; exact this)⟩
      go_wp2
      go_ret
      exact ⟨by rw [HN.out]; rfl, HB⟩
end Go.Proofs.Ytebhclgnpnlekaa.Chk
