/- Numbers as bytes: package octet's Put, and the document's, by their walks. No condition but that there are not too many. -/
import Derived.Test.YtebhclgnpnlekaaPreds
import Derived.Outline
namespace Go.Proofs.Ytebhclgnpnlekaa.Oct
open Go.RowKit Go.Proofs.Ytebhclgnpnlekaa.B Go.Proofs.Ytebhclgnpnlekaa.Cmd

/-- A number's bytes. -/
def enc (n : Nat) : List Int := if n < 128 then [(n : Int)] else ((n % 128 + 128 : Nat) : Int) :: enc (n / 128)
termination_by n
decreasing_by omega
def numOk (n : Int) : Bool := decide (0 ≤ n ∧ n ≤ 1099511627776)
def encs (l : List Int) : List Int := l.flatMap (fun n => enc n.toNat)
def numsOk (l : List Int) : Bool := l.all numOk
theorem enc_small {n : Nat} (h : n < 128) : enc n = [(n : Int)] := by rw [enc, if_pos h]
theorem enc_great {n : Nat} (h : ¬ n < 128) : enc n = ((n % 128 + 128 : Nat) : Int) :: enc (n / 128) := by rw [enc, if_neg h]
theorem enc_wf (n : Nat) : ∀ x ∈ enc n, 0 ≤ x ∧ x ≤ 255 := by
  induction n using Nat.strongRecOn with
  | _ n ih =>
    by_cases h : n < 128
    · rw [enc_small h]; intro x hx; rw [List.mem_singleton.1 hx]; omega
    · rw [enc_great h]
      intro x hx
      rcases List.mem_cons.1 hx with rfl | hx
      · omega
      · exact ih (n / 128) (by omega) x hx
theorem enc_len (k : Nat) : ∀ n, n < 128 ^ (k + 1) → (enc n).length ≤ k + 1 := by
  induction k with
  | zero => intro n h; rw [enc_small (by simpa using h)]; simp
  | succ k ih =>
    intro n h
    by_cases h1 : n < 128
    · rw [enc_small h1]; simp
    · rw [enc_great h1, List.length_cons]
      have := ih (n / 128) (by rw [Nat.pow_succ] at h; exact Nat.div_lt_of_lt_mul (by rw [Nat.mul_comm]; exact h))
      omega
theorem enc_le {n : Int} (h : numOk n = true) : (enc n.toNat).length ≤ 6 := by
  have := of_decide_eq_true h
  exact enc_len 5 _ (by omega)
theorem encs_le {l : List Int} (h : numsOk l = true) : (encs l).length ≤ 6 * l.length := by
  induction l with
  | nil => simp [encs]
  | cons a l ih =>
    rw [numsOk, List.all_cons, Bool.and_eq_true] at h
    have h1 := enc_le h.1
    have h2 := ih h.2
    simp only [encs, List.flatMap_cons, List.length_append, List.length_cons] at h2 ⊢
    omega
theorem info_u8 : (Try.prog.info? 5).map (fun i => (i.zero, i.size, i.bytes)) = some (some (.int .u8 0), 1, 1) := by kernel_rfl
theorem wf_u8 {x : Int} (h : 0 ≤ x) (h2 : x ≤ 255) : (Lit.int .u8 x).wf = true := by
  have e1 : IntKind.u8.min = 0 := by decide
  have e2 : IntKind.u8.max = 255 := by decide
  simp [Lit.wf, e1, e2]
  omega

/-- What Put leaves. -/
def PutSaid (l : List Int) (w : World) (e : Ending) (w' : World) : Prop := if numsOk l = true then ∃ A1 c1, e = .returned (.tuple #[.slice A1 (encs l).length c1, .int .i64 0]) ∧ Hold (Rep.Own (Rep.int .u8) 5 w.heap.size nob w' (.slice A1 (encs l).length c1) (encs l)) ∧ Hold (Below w.heap.size w w')
      else e = .returned (.tuple #[.slice none 0 0, .int .i64 1]) ∧ Hold (Below w.heap.size w w')
/-- What holds at the label: y is left of x, whose first bytes are there. -/
def PutJ (sl lit : Value) (n i : Nat) (x : Int) (p : Addr) (pre all : List Int) (B : Nat) (w0 : World) (a' : Act) (wr : World) : Prop :=
  ∃ u2 u3 v y u14 u15 u16 u17 u18 u19 u20 u21 u22 u23 u24 u25 u26 u27 u28 u29 u30 u31 u32 u33 u34 u35 u36, a' = { tmps := #[sl, undef, u2, u3, v, undef, .int .i64 (y : Int), lit, sl, .int .i64 (n : Int), .int .i64 (i : Int), .bool true, .pointer (some p), .int .i64 x, u14, u15, u16, u17, u18, u19, u20, u21, u22, u23, u24, u25, u26, u27, u28, u29, u30, u31, u32, u33, u34, u35, u36, undef], defers := [] } ∧
    Hold (∃ z : Nat, y = z ∧ z ≤ 1099511627776 ∧ ∃ h, h ++ enc z = all ∧ all.length ≤ 6 ∧ Rep.Own (Rep.int .u8) 5 B nob wr v (pre ++ h)) ∧ Hold (Below B w0 wr)

set_option maxHeartbeats 4000000 in
set_option maxRecDepth 100000 in
theorem put_calls (A : Option Addr) (c n : Nat) (l : List Int) (I : Nat → Prop) (w : World) (hn : n = l.length) (h : Rep.Row (Rep.int .i64) I w A l) (hl : l.length ≤ 10000000) :
    Calls Try.prog 14 #[.slice A n c] w (PutSaid l w) := by
  subst hn
  have H := Hold.mk h
  have hm := h.len_le
  clear h
  go_enter Try.func14, Try.ntmps14
  go_wp2
  go_loopw [4, 10] (fun x s wr => ∃ i : Nat, i ≤ l.length ∧ s = .int .i64 (i : Int) ∧ Hold (numsOk (l.take i) = true) ∧ Hold (Rep.Own (Rep.int .u8) 5 w.heap.size nob wr x (encs (l.take i))) ∧ Hold (Below w.heap.size w wr)) (fun _ s _ => l.length - (intOf s).toNat)
  case atStart => exact ⟨0, by omega, rfl, ⟨by simp [numsOk]⟩, ⟨by simpa [encs] using Rep.Own.lit (Rep.int .u8) _ _ _ _ (Nat.le_refl _)⟩, ⟨(Below.refl _ _).alloc (Nat.le_refl _) _⟩⟩
  case round =>
    obtain ⟨i, hi, rfl, HK, HO, HB⟩ := hrel
    by_cases hlt : i < l.length
    · have l1 : (i : Int) < (l.length : Int) := by omega
      obtain ⟨ad, x, rfl, hx, hc, hw⟩ := Rep.Row.get (H.out.below HB.out) i hlt
      by_cases hok : numOk x = true
      · have hok' := of_decide_eq_true hok
        have t1 : decide (x < 0) = false := decide_eq_false (by omega)
        have t2 : decide (1099511627776 < x) = false := decide_eq_false (by omega)
        have HOk := Hold.mk hok
        have HX := Hold.mk hx
        have HW := Hold.mk hw
        have HE := Hold.mk (enc_le hok)
        clear hok hok' hx hw
        go_wp2
        refine scope_jumps3 0 (PutJ (.slice (some ad) l.length c) (.slice (some ⟨w.heap.size, 0, none⟩) 0 0) l.length i x (ad.add i) (encs (l.take i)) (enc x.toNat) w.heap.size w) (fun a' _ => (intOf (a'.tmps.getD 6 undef)).toNat) rfl ?_ ?_
        · rintro a' w2 ⟨u2, u3, v, y, u14, u15, u16, u17, u18, u19, u20, u21, u22, u23, u24, u25, u26, u27, u28, u29, u30, u31, u32, u33, u34, u35, u36, rfl, HJ, HB2⟩
          obtain ⟨z, rfl, hz, h, hh, hh6, hown⟩ := HJ.out
          obtain ⟨P, hP⟩ : ∃ P, encs (l.take i) ++ h = P := ⟨_, rfl⟩
          rw [hP] at hown
          have hPl : P.length ≤ 6 * l.length + 6 := by
            have h1 := encs_le HK.out
            have h2 := congrArg List.length hh
            rw [List.length_take] at h1
            rw [List.length_append] at h2
            rw [← hP, List.length_append]
            omega
          have HPl := Hold.mk hPl
          have HP := Hold.mk hP
          have HO2 := Hold.mk hown
          have HH := Hold.mk hh
          have HH6 := Hold.mk hh6
          clear hown hh hh6 hP hPl
          by_cases hz8 : z < 128
          · have t3 : decide (128 ≤ (z : Int)) = false := decide_eq_false (by omega)
            have w1 : IntKind.u8.wrap (z : Int) = z := by rw [IntKind.wrap_u8]; omega
            go_wp2_with (at_builtin; refine Rep.wp_push (Rep.int .u8) rfl (.tmp 31) (.tmp 34) 25 5 (.int .u8 0) 1 rfl Try.underlying25 info_u8 rfl (by decide) (by decide) w.heap.size nob nob v P (z : Int) [.int .u8 (z : Int)] rfl rfl HO2.out ⟨rfl, wf_u8 (by omega) (by omega)⟩ (fun _ h _ => h.elim) HB2.out.size ?c3 ?_)
            case c3 => have := HPl.out; omega
            intro A4 c4 w4 HG4
            have HO4 : Hold (Rep.Own (Rep.int .u8) 5 w.heap.size nob w4 (.slice A4 (P.length + 1) c4) (encs (l.take (i + 1)))) := ⟨by
              have h1 := HG4.out.own
              have h2 := HH.out
              rw [enc_small hz8] at h2
              have h3 : encs (l.take (i + 1)) = encs (l.take i) ++ h ++ [(z : Int)] := by
                rw [List.take_succ_eq_append_getElem hlt, encs, List.flatMap_append, List.append_assoc, h2]
                have : l[i] = x := by have := HX.out; rw [List.getElem?_eq_getElem hlt] at this; injection this
                rw [this]; simp [encs]
              rw [h3, HP.out]
              rw [List.length_append] at h1
              exact h1⟩
            have HB4 : Hold (Below w.heap.size w w4) := ⟨HB2.out.trans (HG4.out.below (fun k hk => (HO2.out.block_lt k hk).1) HB2.out.size)⟩
            have HK4 : Hold (numsOk (l.take (i + 1)) = true) := ⟨by
              rw [List.take_succ_eq_append_getElem hlt, numsOk, List.all_append, Bool.and_eq_true]
              have : l[i] = x := by have := HX.out; rw [List.getElem?_eq_getElem hlt] at this; injection this
              exact ⟨HK.out, by simp [this, HOk.out]⟩⟩
            clear t3 w1 hz8
            go_wp2
            simp only [Exit.jump]
            go_wp2
            refine ⟨⟨i + 1, by omega, by go_num, HK4, HO4, HB4⟩, by simp [intOf]; omega⟩
          · have t3 : decide (128 ≤ (z : Int)) = true := decide_eq_true (by omega)
            have q2 : (0 : Int) ≤ z := by omega
            have q4 : (z : Int) ≤ 1099511627776 := by omega
            have w1 : IntKind.u8.wrap ((z : Int) % 128 + 128) = (z : Int) % 128 + 128 := by rw [IntKind.wrap_u8]; omega
            go_wp2_with (at_builtin; refine Rep.wp_push (Rep.int .u8) rfl (.tmp 22) (.tmp 27) 25 5 (.int .u8 0) 1 rfl Try.underlying25 info_u8 rfl (by decide) (by decide) w.heap.size nob nob v P ((z : Int) % 128 + 128) [.int .u8 ((z : Int) % 128 + 128)] rfl rfl HO2.out ⟨rfl, wf_u8 (by omega) (by omega)⟩ (fun _ h _ => h.elim) HB2.out.size ?c4 ?_)
            case c4 => have := HPl.out; omega
            intro A4 c4 w4 HG4
            have HJ4 : Hold (∃ z' : Nat, ((z : Int) / 128) = z' ∧ z' ≤ 1099511627776 ∧ ∃ h', h' ++ enc z' = enc x.toNat ∧ (enc x.toNat).length ≤ 6 ∧ Rep.Own (Rep.int .u8) 5 w.heap.size nob w4 (.slice A4 (P.length + 1) c4) (encs (l.take i) ++ h')) := ⟨z / 128, by omega, by omega, h ++ [((z % 128 + 128 : Nat) : Int)], by
              have h2 := HH.out
              rw [enc_great hz8] at h2
              rw [← h2]; simp, HH6.out, by
              have h1 := HG4.out.own
              rw [List.length_append] at h1
              rw [← List.append_assoc, HP.out]
              push_cast
              exact h1⟩
            have HB4 : Hold (Below w.heap.size w w4) := ⟨HB2.out.trans (HG4.out.below (fun k hk => (HO2.out.block_lt k hk).1) HB2.out.size)⟩
            have hm2 : (z : Int) / 128 < z := by omega
            clear t3 w1 hz8
            go_wp2
            refine wp_goto ?_
            simp only [Exit.then]
            refine ⟨rfl, ⟨_, _, _, _, _, _, _, _, _, _, _, _, _, _, _, _, _, _, _, _, _, _, _, _, _, _, _, rfl, HJ4, HB4⟩, ?_⟩
            simp [intOf]; omega
        · intro pass
          go_wp2
          refine wp_label ?_
          simp only [Exit.then]
          apply_assumption
          refine pass _ _ ⟨_, _, _, _, _, _, _, _, _, _, _, _, _, _, _, _, _, _, _, _, _, _, _, _, _, _, _, rfl, ⟨x.toNat, ?_, ?_, [], by simp, HE.out, by simpa using HO.out⟩, HB⟩
          · have := of_decide_eq_true HOk.out; omega
          · have := of_decide_eq_true HOk.out; omega
      · have hno : numsOk l = false := by
          rw [numsOk, List.all_eq_false]
          have hx' : l[i] = x := by rw [List.getElem?_eq_getElem hlt] at hx; injection hx
          exact ⟨l[i], List.getElem_mem hlt, by rw [hx']; exact hok⟩
        have t0 : x < 0 ∨ 1099511627776 < x := by
          rcases Int.lt_or_le x 0 with h | h
          · exact .inl h
          · exact .inr (Int.not_le.1 fun h2 => hok (decide_eq_true ⟨h, h2⟩))
        have HNo := Hold.mk hno
        clear hok hno hx hw
        rcases t0 with t0 | t0
        · have t1 := decide_eq_true t0
          clear t0
          go_wp2
          refine scope_jumps3 0 (fun _ _ => False) (fun _ _ => 0) rfl (fun _ _ h => h.elim) ?_
          intro _
          go_wp2
          simp only [Exit.jump]
          go_wp2
          go_ret2
          rw [PutSaid, HNo.out, if_neg (by decide)]
          exact ⟨rfl, HB⟩
        · have t1 : decide (x < 0) = false := decide_eq_false (by omega)
          have t2 := decide_eq_true t0
          clear t0
          go_wp2
          refine scope_jumps3 0 (fun _ _ => False) (fun _ _ => 0) rfl (fun _ _ h => h.elim) ?_
          intro _
          go_wp2
          simp only [Exit.jump]
          go_wp2
          go_ret2
          rw [PutSaid, HNo.out, if_neg (by decide)]
          exact ⟨rfl, HB⟩
    · obtain rfl : i = l.length := by omega
      have hk := HK.out
      have hown := HO.out
      rw [List.take_length] at hk hown
      obtain ⟨A4, c4, rfl, _⟩ := hown.form
      have HK2 := Hold.mk hk
      have HO2 := Hold.mk hown
      clear hk hown
      go_wp2
      go_ret2
      rw [PutSaid, HK2.out, if_pos rfl]
      exact ⟨A4, c4, rfl, HO2, HB⟩
end Go.Proofs.Ytebhclgnpnlekaa.Oct
