/- The document's Next of chapter 17, by its walk. No condition. -/
import Derived.Test.YtebhclgnpnlekaaOrdD
namespace Go.Proofs.Ytebhclgnpnlekaa.Ord
open Go.RowKit Go.Proofs.Ytebhclgnpnlekaa.B Go.Proofs.Ytebhclgnpnlekaa.Cmd Go.Proofs.Ytebhclgnpnlekaa.Agg Go.Proofs.Ytebhclgnpnlekaa.Ent
theorem at_step (l : List QE) (had : List Int) (i : Nat) (hi : i < l.length) (o : Option QE) (ho : upS l had (dd (l.take i)) = o) (b : Bool) (hb : (rdy l had l[i] && (findI l l[i].id == (i : Int))) = b) : upS l had (dd (l.take (i + 1))) = if (b && less o l[i]) = true then some l[i] else o := by
  rw [up_take_succ l had i hi, ho, ← hb]
  by_cases hf : findI l l[i].id = (i : Int)
  · rw [if_pos hf, stepB]
    simp [hf]
  · rw [if_neg hf]
    have : (findI l l[i].id == (i : Int)) = false := by simpa using hf
    rw [this]; simp
set_option maxHeartbeats 8000000 in
set_option maxRecDepth 100000 in
/-- The document's Next. -/
theorem refNext_calls (A A' : Option Addr) (c c' n n' : Nat) (l : List QE) (had : List Int) (I J : Nat → Prop) (w : World) (hn : n = l.length) (hn' : n' = had.length) (h : Rep.Row qeRep I w A l) (h' : Rep.Row (Rep.int .i64) J w A' had) :
    Calls Try.prog 65 #[.slice A n c, .slice A' n' c'] w fun e w' => ∃ j : Int, e = .returned (.int .i64 j) ∧ Hold (At l (nextS l had) j) ∧ Hold (Below w.heap.size w w') := by
  subst hn hn'
  have H := Hold.mk h
  have H' := Hold.mk h'
  have hm := h.len_le
  clear h h'
  go_enter Try.func65, Try.ntmps65
  go_wp2
  go_loopw [5, 6] (fun u s wr => ∃ i : Nat, i ≤ l.length ∧ s = .int .i64 (i : Int) ∧ ∃ o j, Hold (upS l had (dd (l.take i)) = o) ∧ u = .int .i64 j ∧ Hold (At l o j) ∧ Hold (Below w.heap.size w wr)) (fun _ s _ => l.length - (intOf s).toNat)
  case atStart => exact ⟨0, by omega, rfl, none, -1, ⟨rfl⟩, rfl, ⟨.inl ⟨rfl, rfl⟩⟩, ⟨Below.refl _ _⟩⟩
  case round =>
    obtain ⟨i, hi, rfl, o, j, HO, rfl, HAt, HB⟩ := hrel
    by_cases hlt : i < l.length
    · have l1 : (i : Int) < (l.length : Int) := by omega
      obtain ⟨b, hb⟩ : ∃ b, (rdy l had l[i] && (findI l l[i].id == (i : Int))) = b := ⟨_, rfl⟩
      have HR := Hold.mk (refReady_calls A A' c c' _ _ l had I J wr rfl rfl (H.out.below HB.out) (H'.out.below HB.out) i hlt b hb)
      have hup := at_step l had i hlt o HO.out b hb
      clear hb
      cases b
      · have HU : Hold (upS l had (dd (l.take (i + 1))) = o) := ⟨hup⟩
        clear hup
        go_upto_region 6 with (go_at_call 122; with_reducible refine HR.out.mono ?_; rintro r w1 ⟨rfl, HB1⟩)
        go_quiet (fail)
        go_wp2
        exact ⟨⟨i + 1, by omega, by go_num, o, j, HU, rfl, HAt, ⟨(HB.out.trans (HB1.out.mono HB.out.size)).trans ((below_drewN _ _).mono (Nat.le_trans HB.out.size HB1.out.size))⟩⟩, by simp [intOf]; omega⟩
      · have HX := Hold.mk H
        have HAI : Hold (At l (some l[i]) (i : Int)) := ⟨.inr ⟨i, hlt, rfl, rfl⟩⟩
        obtain ⟨ad, p, rfl, hp, hpl, hQ, _⟩ := row_qe (H.out.below HB.out) i hlt
        obtain ⟨x, hx⟩ : ∃ x, l[i] = x := ⟨_, rfl⟩
        rw [hx] at hQ hup HAI
        have g17 := hQ.fld.2.2
        obtain ⟨T, hT⟩ : ∃ T, x.er.v.t = T := ⟨_, rfl⟩
        rw [hT] at g17
        clear hQ hx HX
        rcases HAt.out with ⟨rfl, rfl⟩ | ⟨m, hm2, rfl, rfl⟩
        · have HU : Hold (upS l had (dd (l.take (i + 1))) = some x) := ⟨hup⟩
          clear hup
          go_upto_region 6 with (go_at_call 122; with_reducible refine HR.out.mono ?_; rintro r w1 ⟨rfl, HB1⟩)
          go_quiet (fail)
          go_wp2
          exact ⟨⟨i + 1, by omega, by go_num, some x, i, HU, rfl, HAI, ⟨(HB.out.trans (HB1.out.mono HB.out.size)).trans ((below_drewN _ _).mono (Nat.le_trans HB.out.size HB1.out.size))⟩⟩, by simp [intOf]; omega⟩
        · obtain ⟨ad2, p2, hA2, hp2, hpl2, hQ2, _⟩ := row_qe (H.out.below HB.out) m hm2
          cases hA2
          obtain ⟨y, hy⟩ : ∃ y, l[m] = y := ⟨_, rfl⟩
          rw [hy] at hQ2 hup HAt
          have k17 := hQ2.fld.2.2
          obtain ⟨T2, hT2⟩ : ∃ T, y.er.v.t = T := ⟨_, rfl⟩
          rw [hT2] at k17
          have l3 : (m : Int) < (l.length : Int) := by omega
          have l4 : ¬ (m : Int) < 0 := by omega
          have l5 : decide ((m : Int) < 0) = false := decide_eq_false l4
          clear hQ2 hy
          by_cases hle : T < T2
          · have hd := decide_eq_true hle
            have HU : Hold (upS l had (dd (l.take (i + 1))) = some x) := ⟨by rw [hup]; simp [less, QE.t, hT, hT2, hle]⟩
            clear hup hT hT2
            go_upto_region 6 with (go_at_call 122; with_reducible refine HR.out.mono ?_; rintro r w1 ⟨rfl, HB1⟩)
            replace g17 := (below_cell HB1.out (p := ⟨p.block, p.off + 17, none⟩) hpl).trans g17
            replace k17 := (below_cell HB1.out (p := ⟨p2.block, p2.off + 17, none⟩) hpl2).trans k17
            go_quiet (fail)
            go_wp2
            exact ⟨⟨i + 1, by omega, by go_num, some x, i, HU, rfl, HAI, ⟨(HB.out.trans (HB1.out.mono HB.out.size)).trans ((below_drewN _ _).mono (Nat.le_trans HB.out.size HB1.out.size))⟩⟩, by simp [intOf]; omega⟩
          · have hd := decide_eq_false hle
            have HU : Hold (upS l had (dd (l.take (i + 1))) = some y) := ⟨by rw [hup]; simp [less, QE.t, hT, hT2, hle]⟩
            clear hup hT hT2
            go_upto_region 6 with (go_at_call 122; with_reducible refine HR.out.mono ?_; rintro r w1 ⟨rfl, HB1⟩)
            replace g17 := (below_cell HB1.out (p := ⟨p.block, p.off + 17, none⟩) hpl).trans g17
            replace k17 := (below_cell HB1.out (p := ⟨p2.block, p2.off + 17, none⟩) hpl2).trans k17
            go_quiet (fail)
            go_wp2
            exact ⟨⟨i + 1, by omega, by go_num, some y, m, HU, rfl, HAt, ⟨(HB.out.trans (HB1.out.mono HB.out.size)).trans ((below_drewN _ _).mono (Nat.le_trans HB.out.size HB1.out.size))⟩⟩, by simp [intOf]; omega⟩
    · obtain rfl : i = l.length := by omega
      have HN : Hold (At l (nextS l had) j) := ⟨by have := HO.out; rw [List.take_length] at this; unfold nextS; rw [this]; exact HAt.out⟩
      go_wp2
      go_ret
      exact ⟨_, rfl, HN, HB⟩
end Go.Proofs.Ytebhclgnpnlekaa.Ord
