/- Numbers as bytes, as the document says: lictorref04's in, One, Put, by their walks. -/
import Derived.Test.YtebhclgnpnlekaaPut
namespace Go.Proofs.Ytebhclgnpnlekaa.Oct
open Go.RowKit Go.Proofs.Ytebhclgnpnlekaa.B Go.Proofs.Ytebhclgnpnlekaa.Cmd

theorem refIn_calls (n : Int) (w : World) (b : Bool) (hb : numOk n = b) : Calls Try.prog 78 #[.int .i64 n] w fun e w' => e = .returned (.bool b) ∧ w = w' := by
  subst hb
  by_cases h0 : 0 ≤ n
  · have e : numOk n = decide (n ≤ 1099511627776) := by unfold numOk; rw [Bool.eq_iff_iff]; simp; omega
    rw [e]
    go_enter Try.func78, Try.ntmps78
    go_wp2
    go_ret
    exact ⟨by simp, rfl⟩
  · have e : numOk n = false := by unfold numOk; rw [decide_eq_false]; omega
    rw [e]
    go_enter Try.func78, Try.ntmps78
    go_wp2
    go_ret
    exact ⟨by simp <;> omega, rfl⟩
/-- What One leaves. -/
def OneSaid (n : Nat) (w : World) (e : Ending) (w' : World) : Prop := ∃ A1 c1, e = .returned (.slice A1 (enc n).length c1) ∧ Hold (Rep.Own (Rep.int .u8) 5 w.heap.size nob w' (.slice A1 (enc n).length c1) (enc n)) ∧ Hold (Below w.heap.size w w')
set_option maxHeartbeats 2000000 in
theorem one_calls (n : Nat) (hn : n ≤ 1099511627776) : ∀ w, Calls Try.prog 79 #[.int .i64 (n : Int)] w (OneSaid n w) := by
  induction n using Nat.strongRecOn with
  | _ n ih =>
    intro w
    by_cases h : n < 128
    · have t1 : decide ((n : Int) < 128) = true := decide_eq_true (by omega)
      have w1 : IntKind.u8.wrap (n : Int) = n := by rw [IntKind.wrap_u8]; omega
      have HO : Hold (Rep.Own (Rep.int .u8) 5 w.heap.size nob (w.alloc (.cells #[.int .u8 (n : Int)] 5)) (.slice (some ⟨w.heap.size, 0, none⟩) 1 1) (enc n)) := ⟨by
        rw [enc_small h]; exact Rep.own_lit _ _ _ _ [(n : Int)] (Nat.le_refl _) (by simp [maxLen]) (by simpa using wf_u8 (by omega) (by omega))⟩
      have HL : Hold ((enc n).length = 1) := ⟨by rw [enc_small h]; rfl⟩
      clear h
      go_enter Try.func79, Try.ntmps79
      go_wp2
      go_ret
      exact ⟨_, _, by rw [HL.out]; rfl, ⟨by rw [HL.out]; exact HO.out⟩, ⟨(Below.refl _ _).alloc (Nat.le_refl _) _⟩⟩
    · have t1 : decide ((n : Int) < 128) = false := decide_eq_false (by omega)
      have q2 : (0 : Int) ≤ n := by omega
      have q4 : (n : Int) ≤ 1099511627776 := by omega
      have w1 : IntKind.u8.wrap ((n : Int) % 128 + 128) = (n : Int) % 128 + 128 := by rw [IntKind.wrap_u8]; omega
      obtain ⟨m, hm⟩ : ∃ m, n / 128 = m := ⟨_, rfl⟩
      have q5 : (n : Int) / 128 = (m : Int) := by omega
      obtain ⟨w0, hw0⟩ : ∃ W, w.alloc (.cells #[.int .u8 ((n : Int) % 128 + 128)] 5) = W := ⟨_, rfl⟩
      have HO : Hold (Rep.Own (Rep.int .u8) 5 w.heap.size nob w0 (.slice (some ⟨w.heap.size, 0, none⟩) 1 1) [(n : Int) % 128 + 128]) := ⟨by
        rw [← hw0]; exact Rep.own_lit _ _ _ _ [(n : Int) % 128 + 128] (Nat.le_refl _) (by simp [maxLen]) (by simpa using wf_u8 (by omega) (by omega))⟩
      have HB0 : Hold (Below w.heap.size w w0) := ⟨by rw [← hw0]; exact (Below.refl _ _).alloc (Nat.le_refl _) _⟩
      have HE : Hold (enc n = [(n : Int) % 128 + 128] ++ enc m) := ⟨by rw [enc_great h, hm, show (((n % 128 + 128 : Nat)) : Int) = (n : Int) % 128 + 128 by omega]; rfl⟩
      have IH := Hold.mk (ih m (by omega) (by omega))
      have HLe : Hold ((enc m).length ≤ 6) := ⟨enc_len 5 _ (by omega)⟩
      clear h ih hm
      go_enter Try.func79, Try.ntmps79
      go_wp2_with fail
      refine (IH.out _).mono ?_
      rintro e w2 ⟨A2, c2, rfl, HO2, HB2⟩
      have HN2 : Hold (A2 = none → c2 = 0) := ⟨HO2.out.cap_nil _ _ _ rfl⟩
      go_wp2_with (at_builtin; refine Rep.wp_more (Rep.int .u8) rfl (.tmp 12) (.tmp 15) 25 5 (.int .u8 0) 1 rfl Try.underlying25 info_u8 rfl (by decide) (by decide) w.heap.size nob nob (.slice (some ⟨w.heap.size, 0, none⟩) 1 1) [(n : Int) % 128 + 128] (enc m) (enc n) A2 (enc m).length c2 rfl rfl rfl HE.out.symm (HO.out.below HB2.out) ?c0 (fun _ h _ => h.elim) HN2.out ?c1 ?c2 ?_)
      case c0 => exact HO2.out.flatV _ (Rep.flat_int _)
      case c1 => exact Nat.le_trans HB0.out.size HB2.out.size
      case c2 => have := HLe.out; simp; omega
      intro A3 c3 w3 HG3
      have HB3 : Hold (Below w.heap.size w w3) := ⟨HB0.out.trans ((HB2.out.mono HB0.out.size).trans (HG3.out.below (fun k hk => by injection hk with hk; have : w.heap.size = k := hk; omega) (Nat.le_trans HB0.out.size HB2.out.size)))⟩
      go_wp2
      go_ret
      exact ⟨A3, c3, rfl, ⟨HG3.out.own⟩, HB3⟩
set_option maxHeartbeats 4000000 in
theorem refPut_calls (A : Option Addr) (c n : Nat) (l : List Int) (I : Nat → Prop) (w : World) (hn : n = l.length) (h : Rep.Row (Rep.int .i64) I w A l) (hl : l.length ≤ 10000000) :
    Calls Try.prog 15 #[.slice A n c] w (PutSaid l w) := by
  subst hn
  have H := Hold.mk h
  have hm := h.len_le
  clear h
  go_enter Try.func15, Try.ntmps15
  go_wp2
  go_loopw [4, 5] (fun x s wr => ∃ i : Nat, i ≤ l.length ∧ s = .int .i64 (i : Int) ∧ Hold (numsOk (l.take i) = true) ∧ Hold (Rep.Own (Rep.int .u8) 5 w.heap.size nob wr x (encs (l.take i))) ∧ Hold (Below w.heap.size w wr)) (fun _ s _ => l.length - (intOf s).toNat)
  case atStart => exact ⟨0, by omega, rfl, ⟨by simp [numsOk]⟩, ⟨by simpa [encs] using Rep.Own.nil (Rep.int .u8) _ _ _ _⟩, ⟨Below.refl _ _⟩⟩
  case round =>
    obtain ⟨i, hi, rfl, HK, HO, HB⟩ := hrel
    by_cases hlt : i < l.length
    · have l1 : (i : Int) < (l.length : Int) := by omega
      obtain ⟨ad, x, rfl, hx, hc, hw⟩ := Rep.Row.get (H.out.below HB.out) i hlt
      have hx' : l[i] = x := by rw [List.getElem?_eq_getElem hlt] at hx; injection hx
      cases hok : numOk x
      · have HNo : Hold (numsOk l = false) := ⟨by rw [numsOk, List.all_eq_false]; exact ⟨l[i], List.getElem_mem hlt, by rw [hx', hok]; decide⟩⟩
        have HOk := Hold.mk hok
        clear hx hx' hw hok
        go_wp2_with (go_at_call 78; refine (refIn_calls x _ false HOk.out).mono ?_; rintro e w1 ⟨rfl, rfl⟩)
        go_ret2
        rw [PutSaid, HNo.out, if_neg (by decide)]
        exact ⟨rfl, HB⟩
      · have hr := of_decide_eq_true hok
        obtain ⟨z, rfl⟩ : ∃ z : Nat, x = z := ⟨x.toNat, by omega⟩
        have HOk := Hold.mk hok
        have HZ : Hold (z ≤ 1099511627776) := ⟨by omega⟩
        obtain ⟨P, hP⟩ : ∃ P, encs (l.take i) = P := ⟨_, rfl⟩
        have HPl : Hold (P.length ≤ 6 * l.length) := ⟨by have h1 := encs_le HK.out; rw [List.length_take] at h1; rw [← hP]; omega⟩
        have HE : Hold (P ++ enc z = encs (l.take (i + 1))) := ⟨by rw [List.take_succ_eq_append_getElem hlt, encs, List.flatMap_append, hx', ← hP]; simp [encs]⟩
        have HK2 : Hold (numsOk (l.take (i + 1)) = true) := ⟨by rw [List.take_succ_eq_append_getElem hlt, numsOk, List.all_append, Bool.and_eq_true]; exact ⟨HK.out, by simp [hx', hok]⟩⟩
        have HEl := Hold.mk (enc_len 5 z (by omega))
        obtain ⟨Q, hQ⟩ : ∃ Q, encs (l.take (i + 1)) = Q := ⟨_, rfl⟩
        rw [hP] at HO
        rw [hQ] at HE
        have HQ := Hold.mk hQ
        clear hx hx' hw hok hr hP hQ
        go_wp2_with fail
        refine (refIn_calls z _ true HOk.out).mono ?_
        rintro e w1 ⟨rfl, rfl⟩
        go_wp2_with fail
        refine (one_calls z HZ.out _).mono ?_
        rintro e w2 ⟨A2, c2, rfl, HO2, HB2⟩
        have HN2 : Hold (A2 = none → c2 = 0) := ⟨HO2.out.cap_nil _ _ _ rfl⟩
        go_wp2_with (at_builtin; refine Rep.wp_more (Rep.int .u8) rfl (.tmp 20) (.tmp 25) 25 5 (.int .u8 0) 1 rfl Try.underlying25 info_u8 rfl (by decide) (by decide) w.heap.size nob nob u4 P (enc z) Q A2 (enc z).length c2 rfl rfl rfl HE.out (HO.out.below HB2.out) (HO2.out.flatV _ (Rep.flat_int _)) (fun _ h _ => h.elim) HN2.out ?c1 ?c2 ?_)
        case c1 => exact Nat.le_trans HB.out.size HB2.out.size
        case c2 => have := HPl.out; have := HEl.out; omega
        intro A3 c3 w3 HG3
        have HO3 : Hold (Rep.Own (Rep.int .u8) 5 w.heap.size nob w3 (.slice A3 Q.length c3) (encs (l.take (i + 1)))) := ⟨by rw [HQ.out]; exact HG3.out.own⟩
        have HB3 : Hold (Below w.heap.size w w3) := ⟨HB.out.trans ((HB2.out.mono HB.out.size).trans (HG3.out.below (fun k hk => (HO.out.block_lt k hk).1) (Nat.le_trans HB.out.size HB2.out.size)))⟩
        go_wp2
        exact ⟨⟨i + 1, by omega, by go_num, HK2, HO3, HB3⟩, by simp [intOf]; omega⟩
    · obtain rfl : i = l.length := by omega
      have hk := HK.out
      have hown := HO.out
      rw [List.take_length] at hk hown
      obtain ⟨A4, c4, rfl, _⟩ := hown.form
      have HK2 := Hold.mk hk
      have HO2 := Hold.mk hown
      clear hk hown
      go_wp2
      go_ret2
      rw [PutSaid, HK2.out, if_pos rfl]
      exact ⟨A4, c4, rfl, HO2, HB⟩

/-- A command's numbers. -/
def nums (c : CmdD) : List Int := [c.id, c.kind, c.sym, c.tgt, c.side, c.price, c.qty]
theorem nums_wf {c : CmdD} (h : c.wf) : ∀ x ∈ nums c, (Lit.int .i64 x).wf = true := by
  obtain ⟨h1, h2, h3, h4, h5, h6, h7⟩ := h
  intro x hx
  simp [nums] at hx
  rcases hx with rfl | rfl | rfl | rfl | rfl | rfl | rfl <;> assumption
theorem nums_calls (c : CmdD) (w : World) (hw : c.wf) : Calls Try.prog 82 #[c.v] w fun e w' => ∃ A1, e = .returned (.slice A1 7 7) ∧ Hold (Rep.Own (Rep.int .i64) 3 w.heap.size nob w' (.slice A1 7 7) (nums c)) ∧ Hold (Below w.heap.size w w') := by
  have HW := Hold.mk hw
  clear hw
  go_enter Try.func82, Try.ntmps82
  go_wp2
  go_ret
  have hO := Rep.own_lit (k := .i64) 3 w.heap.size nob (w.alloc (.cells #[.int .i64 c.id, .int .i64 c.kind, .int .i64 c.sym, .int .i64 c.tgt, .int .i64 c.side, .int .i64 c.price, .int .i64 c.qty] 45)) (nums c) (by simp) (by simp [nums, maxLen]) (nums_wf HW.out)
  rw [show (w.alloc (.cells #[.int .i64 c.id, .int .i64 c.kind, .int .i64 c.sym, .int .i64 c.tgt, .int .i64 c.side, .int .i64 c.price, .int .i64 c.qty] 45)).heap.size = w.heap.size + 1 by simp] at hO
  exact ⟨_, rfl, ⟨hO⟩, ⟨((Below.refl _ _).alloc (Nat.le_refl _) _).alloc (by simp) _⟩⟩
end Go.Proofs.Ytebhclgnpnlekaa.Oct
