/- The document's find of chapter 21, slices.Contains of numbers, by their walks. No condition. -/
import Derived.Test.YtebhclgnpnlekaaChkA
import Derived.Test.YtebhclgnpnlekaaOrdD
namespace Go.Proofs.Ytebhclgnpnlekaa.Chk
open Go.RowKit Go.Proofs.Ytebhclgnpnlekaa.B Go.Proofs.Ytebhclgnpnlekaa.Cmd Go.Proofs.Ytebhclgnpnlekaa.Agg Go.Proofs.Ytebhclgnpnlekaa.Ent Go.Proofs.Ytebhclgnpnlekaa.Ord
set_option maxHeartbeats 4000000 in
set_option maxRecDepth 100000 in
/-- The document's find. -/
theorem find_calls (A : Option Addr) (c n : Nat) (xs : List QE) (id : Int) (I : Nat → Prop) (w : World) (hn : n = xs.length) (h : Rep.Row qeRep I w A xs) (k : Int) (hk : findI xs id = k) :
    Calls Try.prog 157 #[.slice A n c, .int .i64 id] w fun e w' => e = .returned (.int .i64 k) ∧ w = w' := by
  subst hn
  have H := Hold.mk h
  have hm := h.len_le
  have HB := Hold.mk hk
  clear h hk
  go_enter Try.func157, Try.ntmps157
  go_wp2
  go_loopw [5] (fun s wr => ∃ i : Nat, i ≤ xs.length ∧ s = .int .i64 (i : Int) ∧ Hold (∀ x ∈ xs.take i, isId id x = false) ∧ wr = w) (fun s _ => xs.length - (intOf s).toNat)
  case atStart => exact ⟨0, by omega, rfl, ⟨by simp⟩, rfl⟩
  case round =>
    obtain ⟨i, hi, rfl, HA, rfl⟩ := hrel
    by_cases hlt : i < xs.length
    · have l1 : (i : Int) < (xs.length : Int) := by omega
      obtain ⟨ad, p, rfl, hp, _, hQ, _⟩ := row_qe H.out i hlt
      obtain ⟨x, hx⟩ : ∃ x, xs[i] = x := ⟨_, rfl⟩
      rw [hx] at hQ
      have c0 := hQ.fld.1
      have HX := Hold.mk hx
      clear hx hQ
      obtain ⟨a, ha⟩ : ∃ a, x.er.c.id = a := ⟨_, rfl⟩
      rw [ha] at c0
      have HAx := Hold.mk ha
      clear ha
      by_cases he : a = id
      · subst he
        have hb1 : k = (i : Int) := by rw [← HB.out]; exact firstOf_at hlt HA.out (by rw [HX.out]; simp [isId, QE.id, HAx.out])
        subst hb1
        go_wp2
        go_ret
        exact ⟨rfl, rfl⟩
      · have HA1 : Hold (∀ x ∈ xs.take (i + 1), isId id x = false) := ⟨mem_take_succ hlt HA.out (by rw [HX.out]; simpa [isId, QE.id, HAx.out] using he)⟩
        go_wp2
        exact ⟨⟨i + 1, by omega, by go_num, HA1, trivial⟩, by simp [intOf]; omega⟩
    · obtain rfl : i = xs.length := by omega
      have hb1 : k = -1 := by
        rw [← HB.out]
        exact firstOf_none (by have := HA.out; rw [List.take_length] at this; exact this)
      subst hb1
      go_wp2
      go_ret
      exact ⟨rfl, rfl⟩
set_option maxHeartbeats 4000000 in
set_option maxRecDepth 100000 in
/-- slices.Index of numbers. -/
theorem index_calls (A : Option Addr) (c n : Nat) (xs : List Int) (id : Int) (I : Nat → Prop) (w : World) (hn : n = xs.length) (h : Rep.Row (Rep.int .i64) I w A xs) (k : Int) (hk : firstOf (fun x => x == id) xs = k) :
    Calls Try.prog 165 #[.slice A n c, .int .i64 id] w fun e w' => e = .returned (.int .i64 k) ∧ w = w' := by
  subst hn
  have H := Hold.mk h
  have hm := h.len_le
  have HB := Hold.mk hk
  clear h hk
  go_enter Try.func165, Try.ntmps165
  go_wp2
  go_loopw [8] (fun s wr => ∃ i : Nat, i ≤ xs.length ∧ s = .int .i64 (i : Int) ∧ Hold (∀ x ∈ xs.take i, (x == id) = false) ∧ wr = w) (fun s _ => xs.length - (intOf s).toNat)
  case atStart => exact ⟨0, by omega, rfl, ⟨by simp⟩, rfl⟩
  case round =>
    obtain ⟨i, hi, rfl, HA, rfl⟩ := hrel
    by_cases hlt : i < xs.length
    · have l1 : (i : Int) < (xs.length : Int) := by omega
      obtain ⟨ad, cs, rfl, _, _, ⟨rfl, _⟩, hc⟩ := H.out.at i hlt
      have c0 : wr.cell? (ad.add i) = some (.int .i64 xs[i]) := by have := hc 0 _ rfl; simpa [Rep.int] using this
      obtain ⟨x, hx⟩ : ∃ x, xs[i] = x := ⟨_, rfl⟩
      rw [hx] at c0
      have HX := Hold.mk hx
      clear hx hc
      by_cases he : x = id
      · subst he
        have hb1 : k = (i : Int) := by rw [← HB.out]; exact firstOf_at hlt HA.out (by rw [HX.out]; simp)
        subst hb1
        go_wp2
        go_ret
        exact ⟨rfl, rfl⟩
      · have k1 : (id == x) = false := by simpa using fun h => he h.symm
        have k2 : (x == id) = false := by simpa using he
        have HA1 : Hold (∀ x ∈ xs.take (i + 1), (x == id) = false) := ⟨mem_take_succ hlt HA.out (by rw [HX.out]; exact k2)⟩
        go_wp2
        exact ⟨⟨i + 1, by omega, by go_num, HA1, trivial⟩, by simp [intOf]; omega⟩
    · obtain rfl : i = xs.length := by omega
      have hb1 : k = -1 := by
        rw [← HB.out]
        exact firstOf_none (by have := HA.out; rw [List.take_length] at this; exact this)
      subst hb1
      go_wp2
      go_ret
      exact ⟨rfl, rfl⟩
theorem first_contains (xs : List Int) (id : Int) : decide (0 ≤ firstOf (fun x => x == id) xs) = xs.contains id := by
  rw [firstOf_ge, Bool.eq_iff_iff, List.any_eq_true, List.contains_iff_mem]
  constructor
  · rintro ⟨x, hx, h⟩
    have : x = id := by simpa using h
    exact this ▸ hx
  · intro h
    exact ⟨id, h, by simp⟩
set_option maxHeartbeats 4000000 in
set_option maxRecDepth 100000 in
/-- slices.Contains of numbers. -/
theorem contains_calls (A : Option Addr) (c n : Nat) (xs : List Int) (id : Int) (I : Nat → Prop) (w : World) (hn : n = xs.length) (h : Rep.Row (Rep.int .i64) I w A xs) (b : Bool) (hb : xs.contains id = b) :
    Calls Try.prog 151 #[.slice A n c, .int .i64 id] w fun e w' => e = .returned (.bool b) ∧ w = w' := by
  obtain ⟨k, hk⟩ : ∃ k, firstOf (fun x => x == id) xs = k := ⟨_, rfl⟩
  have HI := Hold.mk (index_calls A c n xs id I w hn h k hk)
  have HE : Hold (decide (0 ≤ k) = b) := ⟨by rw [← hk, first_contains, hb]⟩
  clear h hk hb hn
  go_enter Try.func151, Try.ntmps151
  go_wp2_with (go_at_call 165; refine HI.out.mono ?_; rintro r w1 ⟨rfl, rfl⟩)
  go_ret
  exact ⟨by rw [← HE.out]; rfl, rfl⟩
end Go.Proofs.Ytebhclgnpnlekaa.Chk
