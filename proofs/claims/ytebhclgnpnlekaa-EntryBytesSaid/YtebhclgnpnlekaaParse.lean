/- The document's Parse of an entry, by its walk. -/
import Derived.Test.YtebhclgnpnlekaaTake
import Derived.Deep.Cut
namespace Go.Proofs.Ytebhclgnpnlekaa.Ent
open Go.RowKit Go.Proofs.Ytebhclgnpnlekaa.B Go.Proofs.Ytebhclgnpnlekaa.Cmd Go.Proofs.Ytebhclgnpnlekaa.Agg Go.Proofs.Ytebhclgnpnlekaa.Rd

set_option maxHeartbeats 8000000 in
set_option maxRecDepth 100000 in
theorem parse_calls (A : Option Addr) (c n : Nat) (bs : List Int) (I : Nat → Prop) (w : World) (hn : n = bs.length) (hr : Rep.Row (Rep.int .u8) I w A bs) (hnil : A = none → c = 0) (hl : bs.length ≤ 1000000000) :
    Calls Try.prog 60 #[.slice A n c] w (DecSaid bs w) := by
  subst hn
  have HR := Hold.mk hr
  have HN := Hold.mk hnil
  have HL := Hold.mk hl
  obtain ⟨p, rest, er, hE⟩ : ∃ p r e, entS (bs, 0) = (p, (r, e)) := ⟨_, _, _, rfl⟩
  obtain ⟨rest', er', hT⟩ : ∃ r e, takeSt p (rest, er) = (r, e) := ⟨_, _, rfl⟩
  have HD : Hold (decS bs = if er' = 0 ∧ rest' = [] then (p, 0) else (noEP, 2)) := ⟨by
    rw [decS, hE]
    dsimp only
    rw [takeSt] at hT
    dsimp only at hT
    by_cases h1 : er = 0 ∧ ¬ (p.fr ≤ 1 ∧ p.dn ≤ 1 ∧ okP p = true)
    · rw [if_pos h1] at hT
      cases hT
      rw [if_neg (fun h => h1.2 h.2.2), if_neg (fun h => by have := h.1; omega)]
    · rw [if_neg h1] at hT
      cases hT
      by_cases h2 : er = 0 ∧ rest = []
      · rw [if_pos h2, if_pos ⟨h2.1, h2.2, by
          by_cases h3 : p.fr ≤ 1 ∧ p.dn ≤ 1 ∧ okP p = true
          · exact h3
          · exact absurd ⟨h2.1, h3⟩ h1⟩]
      · rw [if_neg h2, if_neg (fun h => h2 ⟨h.1, h.2.1⟩)]⟩
  have HE := Hold.mk hE
  have HT := Hold.mk hT
  clear hr hnil hl hE hT
  have hB := Bs.nil w
  go_enter Try.func60, Try.ntmps60
  go_wp2_with (first
    | (refine wpl_allocX zeroD hB rfl ?_; intro W1 g2 hB HA; simp only [List.nil_append] at hB)
    | (at_builtin; refine Rep.wp_copy (Rep.int .u8) rfl (.tmp 6) (.tmp 7) 25 5 (.int .u8 0) 1 rfl Try.underlying25 Oct.info_u8 rfl (by decide) (by decide) I bs A bs.length c rfl rfl rfl (HR.out.below hB.below) HN.out (by have := HL.out; omega) ?_; intro A2 c2 w2 HO2 HC2 HB2))
  obtain ⟨W3, hW3⟩ : ∃ W, w2.alloc (.cells #[.slice A2 bs.length c2, .int .i64 0] 40) = W := ⟨_, rfl⟩
  obtain ⟨g, hg⟩ : ∃ g, w2.heap.size = g := ⟨_, rfl⟩
  have hb3 : Below w2.heap.size w2 W3 := by rw [← hW3]; exact (Below.refl _ _).alloc (Nat.le_refl _) _
  have hb13 : Below W1.heap.size W1 W3 := HB2.out.trans (hb3.mono HB2.out.size)
  have hB3 := hB.step hb13
  have D : Hold (DI 40 w g W1.heap.size W3.heap.size [] W3 (bs, 0)) := ⟨by
    refine ⟨⟨hB3.below, fun i b T C h => by simp at h, fun i j x y h => by simp at h⟩, ⟨A2, c2, ?_, HC2.out.1, HC2.out.2, (HO2.out.flat nob (Rep.flat_int _)).row.move ?_⟩, Nat.le_refl _, hB.below.size, by rw [← hg]; exact HB2.out.size, by rw [← hW3, ← hg]; simp, fun i b T C h => by simp at h⟩
    · rw [← hW3, ← hg]; exact Array.getElem?_push_size ..
    · intro k hk hlt
      have hk := HO2.out.block_lt k (hk.resolve_left (fun h => h.elim))
      exact ⟨⟨by omega, hk.1, Nat.lt_of_lt_of_le hk.2 hb3.size⟩, hb3.block k hlt⟩⟩
  have Hg2 : Hold (g2 < W1.heap.size) := ⟨hB.lt 0 rfl⟩
  have Hg : Hold (W1.heap.size ≤ g) := ⟨by rw [← hg]; exact HB2.out.size⟩
  have HB3 := Hold.mk hB3
  have Hg13 : Hold (W1.heap.size ≤ W3.heap.size) := ⟨hb13.size⟩
  clear hB hB3 hb3 hb13 HA HO2 HC2 HB2
  rw [hg, hW3]
  refine (take_calls g _ _ w W3 bs 0 D.out).mono ?_
  rintro r w4 ⟨x, y, z, rfl, HEA, HRA, HF⟩
  rw [HE.out] at HEA HRA
  rw [HE.out]
  dsimp only at HEA HRA
  dsimp only
  rw [HT.out] at HRA
  obtain ⟨E, hE⟩ : ∃ E, erOf p x y z = E := ⟨_, rfl⟩
  rw [hE] at HEA
  rw [hE]
  have HEr := Hold.mk hE
  clear hE
  obtain ⟨A7, c7, hb7, hl7, hn7, hr7⟩ := HRA.out
  have hB : Bs w w4 [(g2, 75, noER.cells), (g, 40, #[.slice A7 rest'.length c7, .int .i64 er'])] := by
    have h1 : Bs w w4 [(g2, 75, noER.cells)] := bs_fr HB3.out HF.out (fun k hk => by
      obtain rfl : k = g := hk
      refine ⟨Nat.le_trans D.out.lo D.out.g0, fun i b T C hi => ?_⟩
      rcases i with _ | i
      · simp only [List.getElem?_cons_zero, Option.some.injEq, Prod.mk.injEq] at hi
        have := Hg2.out; have := Hg.out; omega
      · simp at hi)
    exact Bs.add h1 hb7 (Nat.le_trans D.out.lo D.out.g0) (fun i x hi he => by
      rcases i with _ | i
      · simp only [List.getElem?_cons_zero, Option.some.injEq] at hi; subst hi; dsimp only at he; have := Hg2.out; have := Hg.out; omega
      · simp at hi)
  clear hb7 hl7 hn7 hr7 HRA D HB3 hW3
  have Hw34 : Hold (W3.heap.size ≤ w4.heap.size) := ⟨HF.out.size⟩
  have Hg23 : Hold (g2 < W3.heap.size) := ⟨by have := Hg2.out; have := Hg13.out; omega⟩
  go_upto_region 3 with (first
    | (with_reducible refine gateA 75 ?_; refine wpl_allocX zeroD hB rfl ?_; intro W5 g5 hB HA5; simp only [List.cons_append, List.nil_append] at hB)
    | (with_reducible refine gateS 75 ?_; refine wpl_storeX (C' := ER.cells E) isD rfl rfl hB 2 rfl (ER.size _) (ER.size _) (ER.one _) rfl ?_; intro W6 hB HF6; simp only [List.set] at hB; have hc1 := hB.cell 1 rfl 1; have hc0 := hB.cell 1 rfl 0))
  have H56 : Hold (Below w4.heap.size w4 W6) := ⟨⟨HF6.out.os.trans HA5.out.1.os, HF6.out.tape.trans HA5.out.1.tape, HF6.out.output.trans HA5.out.1.output, Nat.le_trans HA5.out.1.size HF6.out.size, fun k hk => (HF6.out.block k (by have := HA5.out.2.2; omega) (by have := HA5.out.2.1; omega)).trans (HA5.out.1.block k hk)⟩⟩
  have hc1' : W6.cell? ⟨g, 1, none⟩ = some (.int .i64 er') := hc1
  have hc0' : W6.cell? ⟨g, 0, none⟩ = some (.slice A7 rest'.length c7) := hc0
  clear hc1 hc0 HF6 HA5
  by_cases k1 : er' = 0
  · subst k1
    have t1 : ((0 : Int) != 0) = false := rfl
    rcases rest' with _ | ⟨q, rest'⟩
    · have HDn : Hold (decS bs = (p, 0)) := ⟨by rw [HD.out, if_pos]; exact ⟨rfl, rfl⟩⟩
      clear HD
      go_wp2_with (first
        | (with_reducible refine gateL 75 ?_; refine wpl_load isD rfl hB 2 rfl (ER.size _) rfl ?_)
        | (with_reducible refine gateS 75 ?_; refine wpl_storeX (C' := ER.cells E) isD rfl rfl hB 0 rfl (ER.size _) (ER.size _) (ER.one _) rfl ?_; intro W7 hB HF7; simp only [List.set] at hB))
      have hfr : Fr (fun k => k = g2 ∨ w4.heap.size ≤ k) w4 W7 := (Fr.of_below _ H56.out).trans HF7.out (fun i _ h => .inl h)
      have hEf := HEA.out W7 _ hfr (fun k hk => by
        have := Hg23.out
        rcases hk with hk | hk
        · left; omega
        · right; exact hk)
      refine bodyPost_ret (res_two rfl rfl rfl isD hB 0 rfl (ER.size _)) rfl ⟨x, y, z, ?_, ⟨?_⟩, ⟨hB.below⟩⟩
      · rw [HDn.out]
        show _ = Ending.returned (.tuple #[.agg (erOf p x y z).cells, .int .i64 0])
        rw [HEr.out]
        rfl
      · rw [HDn.out]
        dsimp only
        rw [HEr.out]
        exact hEf
    · have t2 : decide ((0 : Int) < ((q :: rest').length : Int)) = true := decide_eq_true (by simp)
      have t2' : decide (0 < (q :: rest').length) = true := decide_eq_true (by simp)
      have HDn : Hold (decS bs = (noEP, 2)) := ⟨by rw [HD.out, if_neg]; rintro ⟨_, h⟩; cases h⟩
      clear HD
      go_wp2_with (with_reducible refine gateS 75 ?_; refine wpl_store (C' := ER.cells noER) isD rfl rfl hB 0 rfl (ER.size _) (ER.size _) (ER.one _) rfl ?_; intro W19 hB; simp only [List.set] at hB)
      exact bodyPost_ret (res_two rfl rfl rfl isD hB 0 rfl (ER.size _)) rfl ⟨(none, 0), (none, 0), (none, 0), by rw [HDn.out]; rfl, ⟨by rw [HDn.out]; exact noER_at _⟩, ⟨hB.below⟩⟩
  · have t1 : (er' != 0) = true := by simpa using k1
    have HDn : Hold (decS bs = (noEP, 2)) := ⟨by rw [HD.out, if_neg (fun h => k1 h.1)]⟩
    clear HD k1
    go_wp2_with (with_reducible refine gateS 75 ?_; refine wpl_store (C' := ER.cells noER) isD rfl rfl hB 0 rfl (ER.size _) (ER.size _) (ER.one _) rfl ?_; intro W19 hB; simp only [List.set] at hB)
    exact bodyPost_ret (res_two rfl rfl rfl isD hB 0 rfl (ER.size _)) rfl ⟨(none, 0), (none, 0), (none, 0), by rw [HDn.out]; rfl, ⟨by rw [HDn.out]; exact noER_at _⟩, ⟨hB.below⟩⟩
end Go.Proofs.Ytebhclgnpnlekaa.Ent
