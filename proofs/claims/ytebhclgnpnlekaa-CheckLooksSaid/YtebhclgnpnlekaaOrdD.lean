/- The document's Has, find, ready, Next of chapter 17, by their walks. No condition. -/
import Derived.Test.YtebhclgnpnlekaaOrdQ
namespace Go.Proofs.Ytebhclgnpnlekaa.Ord
open Go.RowKit Go.Proofs.Ytebhclgnpnlekaa.B Go.Proofs.Ytebhclgnpnlekaa.Cmd Go.Proofs.Ytebhclgnpnlekaa.Agg Go.Proofs.Ytebhclgnpnlekaa.Ent
theorem QAt.fld {w : World} {p : Addr} {x : QE} (h : QAt w p x) : w.cell? p = some (.int .i64 x.er.c.id) ∧ w.cell? ⟨p.block, p.off + 16, none⟩ = some (.bool x.er.dn) ∧ w.cell? ⟨p.block, p.off + 17, none⟩ = some (.int .i64 x.er.v.t) := by
  have add_pos : ∀ j, 0 < j → p.add j = ⟨p.block, p.off + j, none⟩ := fun j hj => by
    unfold Addr.add
    rw [if_neg (by omega)]
  have h0 := h 0 _ rfl
  have h16 := h 16 _ rfl
  have h17 := h 17 _ rfl
  rw [add_pos 16 (by omega)] at h16
  rw [add_pos 17 (by omega)] at h17
  exact ⟨h0, h16, h17⟩
theorem find_cases (l : List QE) (id : Int) : (findI l id = -1 ∧ byS l id = none) ∨ ∃ j : Nat, ∃ hj : j < l.length, findI l id = (j : Int) ∧ byS l id = some l[j] := by
  unfold findI firstOf byS
  cases h : l.findIdx? (isId id) with
  | none =>
    left
    refine ⟨rfl, ?_⟩
    rw [List.findIdx?_eq_none_iff] at h
    rw [List.find?_eq_none]
    intro x hx
    simp [h x hx]
  | some j =>
    right
    rw [List.findIdx?_eq_some_iff_getElem] at h
    obtain ⟨hj, h1, h2⟩ := h
    refine ⟨j, hj, rfl, ?_⟩
    rw [List.find?_eq_some_iff_getElem]
    exact ⟨h1, j, hj, rfl, fun i hi => by simp [h2 i hi]⟩
set_option maxHeartbeats 4000000 in
set_option maxRecDepth 100000 in
/-- The document's Has. -/
theorem has_calls (A : Option Addr) (c n : Nat) (xs : List Int) (id : Int) (I : Nat → Prop) (w : World) (hn : n = xs.length) (h : Rep.Row (Rep.int .i64) I w A xs) (b : Bool) (hb : xs.contains id = b) :
    Calls Try.prog 124 #[.slice A n c, .int .i64 id] w fun e w' => e = .returned (.bool b) ∧ w = w' := by
  subst hn
  have H := Hold.mk h
  have hm := h.len_le
  have HB := Hold.mk hb
  clear h hb
  go_enter Try.func124, Try.ntmps124
  go_wp2
  go_loopw [5] (fun s wr => ∃ i : Nat, i ≤ xs.length ∧ s = .int .i64 (i : Int) ∧ Hold (∀ x ∈ xs.take i, x ≠ id) ∧ wr = w) (fun s _ => xs.length - (intOf s).toNat)
  case atStart => exact ⟨0, by omega, rfl, ⟨by simp⟩, rfl⟩
  case round =>
    obtain ⟨i, hi, rfl, HA, rfl⟩ := hrel
    by_cases hlt : i < xs.length
    · have l1 : (i : Int) < (xs.length : Int) := by omega
      obtain ⟨ad, cs, rfl, _, _, ⟨rfl, _⟩, hc⟩ := H.out.at i hlt
      have c0 : wr.cell? (ad.add i) = some (.int .i64 xs[i]) := by have := hc 0 _ rfl; simpa [Rep.int] using this
      obtain ⟨x, hx⟩ : ∃ x, xs[i] = x := ⟨_, rfl⟩
      rw [hx] at c0
      have HX := Hold.mk hx
      clear hx hc
      by_cases he : x = id
      · subst he
        have hb1 : b = true := by rw [← HB.out, List.contains_iff_mem, ← HX.out]; exact List.getElem_mem hlt
        subst hb1
        go_wp2
        go_ret
        exact ⟨rfl, rfl⟩
      · have HA1 : Hold (∀ x ∈ xs.take (i + 1), x ≠ id) := ⟨mem_take_succ hlt HA.out (by rw [HX.out]; exact he)⟩
        go_wp2
        exact ⟨⟨i + 1, by omega, by go_num, HA1, trivial⟩, by simp [intOf]; omega⟩
    · obtain rfl : i = xs.length := by omega
      have hb1 : b = false := by
        rw [← HB.out, ← Bool.not_eq_true, List.contains_iff_mem]
        intro hmem
        have := HA.out
        rw [List.take_length] at this
        exact this id hmem rfl
      subst hb1
      go_wp2
      go_ret
      exact ⟨rfl, rfl⟩
set_option maxHeartbeats 4000000 in
set_option maxRecDepth 100000 in
/-- The document's find. -/
theorem find_calls (A : Option Addr) (c n : Nat) (xs : List QE) (id : Int) (I : Nat → Prop) (w : World) (hn : n = xs.length) (h : Rep.Row qeRep I w A xs) (k : Int) (hk : findI xs id = k) :
    Calls Try.prog 125 #[.slice A n c, .int .i64 id] w fun e w' => e = .returned (.int .i64 k) ∧ w = w' := by
  subst hn
  have H := Hold.mk h
  have hm := h.len_le
  have HB := Hold.mk hk
  clear h hk
  go_enter Try.func125, Try.ntmps125
  go_wp2
  go_loopw [5] (fun s wr => ∃ i : Nat, i ≤ xs.length ∧ s = .int .i64 (i : Int) ∧ Hold (∀ x ∈ xs.take i, isId id x = false) ∧ wr = w) (fun s _ => xs.length - (intOf s).toNat)
  case atStart => exact ⟨0, by omega, rfl, ⟨by simp⟩, rfl⟩
  case round =>
    obtain ⟨i, hi, rfl, HA, rfl⟩ := hrel
    by_cases hlt : i < xs.length
    · have l1 : (i : Int) < (xs.length : Int) := by omega
      obtain ⟨ad, p, rfl, hp, _, hQ, _⟩ := row_qe H.out i hlt
      obtain ⟨x, hx⟩ : ∃ x, xs[i] = x := ⟨_, rfl⟩
      rw [hx] at hQ
      have c0 := hQ.fld.1
      have HX := Hold.mk hx
      clear hx hQ
      obtain ⟨a, ha⟩ : ∃ a, x.er.c.id = a := ⟨_, rfl⟩
      rw [ha] at c0
      have HAx := Hold.mk ha
      clear ha
      by_cases he : a = id
      · subst he
        have hb1 : k = (i : Int) := by rw [← HB.out]; exact firstOf_at hlt HA.out (by rw [HX.out]; simp [isId, QE.id, HAx.out])
        subst hb1
        go_wp2
        go_ret
        exact ⟨rfl, rfl⟩
      · have HA1 : Hold (∀ x ∈ xs.take (i + 1), isId id x = false) := ⟨mem_take_succ hlt HA.out (by rw [HX.out]; simpa [isId, QE.id, HAx.out] using he)⟩
        go_wp2
        exact ⟨⟨i + 1, by omega, by go_num, HA1, trivial⟩, by simp [intOf]; omega⟩
    · obtain rfl : i = xs.length := by omega
      have hb1 : k = -1 := by
        rw [← HB.out]
        exact firstOf_none (by have := HA.out; rw [List.take_length] at this; exact this)
      subst hb1
      go_wp2
      go_ret
      exact ⟨rfl, rfl⟩
set_option maxHeartbeats 8000000 in
set_option maxRecDepth 100000 in
/-- The document's ready. -/
theorem refReady_calls (A A' : Option Addr) (c c' n n' : Nat) (l : List QE) (had : List Int) (I J : Nat → Prop) (w : World) (hn : n = l.length) (hn' : n' = had.length) (h : Rep.Row qeRep I w A l) (h' : Rep.Row (Rep.int .i64) J w A' had) (i : Nat) (hi : i < l.length) (b : Bool) (hb : (rdy l had l[i] && (findI l l[i].id == (i : Int))) = b) :
    Calls Try.prog 122 #[.slice A n c, .slice A' n' c', .int .i64 (i : Int)] w fun e w' => e = .returned (.bool b) ∧ Hold (Below w.heap.size w w') := by
  subst hn hn'
  have H := Hold.mk h
  have H' := Hold.mk h'
  have hm := h.len_le
  have hm' := h'.len_le
  have l1 : (i : Int) < (l.length : Int) := by omega
  obtain ⟨ad, p, rfl, hp, hpl, hQ, hF⟩ := row_qe h i hi
  obtain ⟨x, hx⟩ : ∃ x, l[i] = x := ⟨_, rfl⟩
  rw [hx] at hQ hF hb
  obtain ⟨e, ps⟩ := x
  have hQ' : ∀ (j : Nat) (u : Value), e.cells[j]? = some u → w.cell? (p.add j) = some u := hQ
  have HF := Hold.mk hF
  have ka := e.all
  obtain ⟨d1, h1⟩ : ∃ d1, e.dn = d1 := ⟨_, rfl⟩
  obtain ⟨d2, h2⟩ : ∃ d2, had.contains e.c.id = d2 := ⟨_, rfl⟩
  obtain ⟨d3, h3⟩ : ∃ d3, findI l e.c.id = d3 := ⟨_, rfl⟩
  have HH := Hold.mk h2
  have HFi := Hold.mk h3
  have hB0 := Hold.mk (Bs.nil w)
  simp only [rdy, QE.dn, QE.id] at hb
  rw [h1, h2, h3] at hb
  have HBb := Hold.mk hb
  clear hb h h' hF hx hQ h2 h3
  rw [h1] at ka
  cases d1
  · have hb1 : b = false := by rw [← HBb.out]; rfl
    subst hb1
    go_enter Try.func122, Try.ntmps122
    go_wp2_with (first
      | (with_reducible refine gateL 75 ?_; refine wpl_loadO isD rfl (ER.size e) hQ' rfl ?_)
      | (with_reducible refine gateA 75 ?_; refine wpl_alloc zeroD hB0.out rfl ?_; intro W2 g2 hB; simp only [List.nil_append] at hB)
      | (with_reducible refine gateS 75 ?_; refine wpl_store (C' := e.cells) isD rfl rfl hB 0 rfl (ER.size _) (ER.size _) (ER.one _) rfl ?_; intro W3 hB; simp only [List.set] at hB; have hc := hB.cell 0 rfl)
      | (go_at_call 124; with_reducible refine (has_calls A' c' _ had e.c.id _ W3 rfl (H'.out.below hB.below) d2 HH.out).mono ?_; rintro r w1 ⟨rfl, rfl⟩))
    go_ret
    exact ⟨rfl, ⟨hB.below⟩⟩
  · cases d2
    · by_cases hf : d3 = (i : Int)
      · subst hf
        have HBb2 : Hold ((!ps.any (bad l had { er := e, ps := ps })) = b) := ⟨by rw [← HBb.out]; simp⟩
        clear HBb
        go_enter Try.func122, Try.ntmps122
        go_wp2_with (first
      | (with_reducible refine gateL 75 ?_; refine wpl_loadO isD rfl (ER.size e) hQ' rfl ?_)
      | (with_reducible refine gateA 75 ?_; refine wpl_alloc zeroD hB0.out rfl ?_; intro W2 g2 hB; simp only [List.nil_append] at hB)
      | (with_reducible refine gateS 75 ?_; refine wpl_store (C' := e.cells) isD rfl rfl hB 0 rfl (ER.size _) (ER.size _) (ER.one _) rfl ?_; intro W3 hB; simp only [List.set] at hB; have hc := hB.cell 0 rfl)
      | (go_at_call 124; with_reducible refine (has_calls A' c' _ had e.c.id _ W3 rfl (H'.out.below hB.below) false HH.out).mono ?_; rintro r w1 ⟨rfl, rfl⟩)
      | (go_at_call 125; with_reducible refine (find_calls (some ad) c _ l e.c.id _ W3 rfl (H.out.below hB.below) _ HFi.out).mono ?_; rintro r w1 ⟨rfl, rfl⟩))
        have HBs := Hold.mk hB
        have hln : e.v.n = ps.length := HF.out.len
        have HPs : Hold (Rep.Row cmdRep I w e.v.A ps) := ⟨HF.out.row⟩
        have hmp := HPs.out.len_le
        have HT : Hold ((Lit.int .i64 e.v.t).wf = true) := ⟨HF.out.t⟩
        obtain ⟨T, hT⟩ : ∃ T, e.v.t = T := ⟨_, rfl⟩
        obtain ⟨PA, hPA⟩ : ∃ PA, e.v.A = PA := ⟨_, rfl⟩
        obtain ⟨pc, hpc⟩ : ∃ pc, e.v.c = pc := ⟨_, rfl⟩
        rw [hT, hPA, hln, hpc] at ka
        rw [hPA] at HPs
        have HTe := Hold.mk hT
        clear hB hc hT hPA hpc hln hQ' hp hpl hB0 HF hi
        go_loopw [9] (fun s wr => ∃ k : Nat, k ≤ ps.length ∧ s = .int .i64 (k : Int) ∧ Hold (∀ x ∈ ps.take k, bad l had { er := e, ps := ps } x = false) ∧ Hold (Bs w wr [(g2, 75, e.cells)])) (fun s _ => ps.length - (intOf s).toNat)
        case atStart => exact ⟨0, by omega, rfl, ⟨by simp⟩, HBs⟩
        case round =>
          obtain ⟨k, hk, rfl, HA, HBk⟩ := hrel
          have hc := HBk.out.cell 0 rfl
          by_cases hlt : k < ps.length
          · have l2 : (k : Int) < (ps.length : Int) := by omega
            obtain ⟨ad2, q, rfl, hq, _, ⟨c0, c1, c2, c3, c4, c5, c6, hw⟩⟩ := row_cmd (HPs.out.below HBk.out.below) k hlt
            obtain ⟨y, hy⟩ : ∃ y, ps[k] = y := ⟨_, rfl⟩
            rw [hy] at c0 c1 c2 c3 c4 c5 c6 hw
            have HY := Hold.mk hy
            clear hy hw c1 c2 c3 c4 c5 c6
            obtain ⟨id, hid⟩ : ∃ id, y.id = id := ⟨_, rfl⟩
            rw [hid] at c0
            obtain ⟨d4, h4⟩ : ∃ d4, had.contains id = d4 := ⟨_, rfl⟩
            have H4 := Hold.mk h4
            have HX := Hold.mk (H.out.below HBk.out.below)
            have HX' := Hold.mk (H'.out.below HBk.out.below)
            rcases find_cases l id with ⟨e1, e2⟩ | ⟨j, hj, e1, e2⟩
            · have H5 := Hold.mk e1
              have hb1 : b = false := by
                rw [← HBb2.out, Bool.not_eq_false', List.any_eq_true]
                exact ⟨y, HY.out ▸ List.getElem_mem hlt, by unfold bad; rw [hid, e2]⟩
              subst hb1
              clear e1 e2 h4
              go_upto_region 11 with (first
                | (go_at_call 124; with_reducible refine (has_calls A' c' _ had id _ wr rfl HX'.out d4 H4.out).mono ?_; rintro r w1 ⟨rfl, rfl⟩)
                | (go_at_call 125; with_reducible refine (find_calls (some ad) c _ l id _ wr rfl HX.out (-1) H5.out).mono ?_; rintro r w1 ⟨rfl, rfl⟩))
              go_quiet (fail)
              go_wp2
              go_ret
              exact ⟨rfl, ⟨(HBk.out.drewN _).below⟩⟩
            · have H5 := Hold.mk e1
              obtain ⟨ad3, p2, hA3, hp2, _, hQ2, hF2⟩ := row_qe HX.out j hj
              cases hA3
              obtain ⟨z, hz⟩ : ∃ z, l[j] = z := ⟨_, rfl⟩
              rw [hz] at hQ2 e2
              obtain ⟨g0, g16, g17⟩ := hQ2.fld
              clear hQ2 hF2 hz
              have l3 : (j : Int) < (l.length : Int) := by omega
              have l4 : ¬ (j : Int) < 0 := by omega
              have l5 : decide ((j : Int) < 0) = false := decide_eq_false l4
              have hbad : bad l had { er := e, ps := ps } y = (!z.dn || (decide (z.er.v.t ≤ T) && !d4)) := by
                unfold bad
                rw [hid, e2, h4, ← HTe.out]
              obtain ⟨T2, hT2⟩ : ∃ T2, z.er.v.t = T2 := ⟨_, rfl⟩
              obtain ⟨d6, h6⟩ : ∃ d6, z.er.dn = d6 := ⟨_, rfl⟩
              rw [hT2] at g17 hbad
              rw [h6] at g16
              simp only [QE.dn, h6] at hbad
              clear e1 e2 h4 hid hT2 h6 g0
              cases d6
              · have hb1 : b = false := by
                  rw [← HBb2.out, Bool.not_eq_false', List.any_eq_true]
                  exact ⟨y, HY.out ▸ List.getElem_mem hlt, by rw [hbad]; simp []⟩
                subst hb1
                clear hbad
                go_upto_region 11 with (first
                | (go_at_call 124; with_reducible refine (has_calls A' c' _ had id _ wr rfl HX'.out d4 H4.out).mono ?_; rintro r w1 ⟨rfl, rfl⟩)
                | (go_at_call 125; with_reducible refine (find_calls (some ad) c _ l id _ wr rfl HX.out (j : Int) H5.out).mono ?_; rintro r w1 ⟨rfl, rfl⟩))
                go_quiet (fail)
                go_wp2
                go_ret
                exact ⟨rfl, ⟨(HBk.out.drewN _).below⟩⟩
              · by_cases hle : T2 ≤ T
                · have hd := decide_eq_true hle
                  cases d4
                  · have hb1 : b = false := by
                      rw [← HBb2.out, Bool.not_eq_false', List.any_eq_true]
                      exact ⟨y, HY.out ▸ List.getElem_mem hlt, by rw [hbad]; simp [hle]⟩
                    subst hb1
                    clear hbad
                    go_upto_region 11 with (first
                | (go_at_call 124; with_reducible refine (has_calls A' c' _ had id _ wr rfl HX'.out false H4.out).mono ?_; rintro r w1 ⟨rfl, rfl⟩)
                | (go_at_call 125; with_reducible refine (find_calls (some ad) c _ l id _ wr rfl HX.out (j : Int) H5.out).mono ?_; rintro r w1 ⟨rfl, rfl⟩))
                    go_quiet (fail)
                    go_wp2
                    go_ret
                    exact ⟨rfl, ⟨(HBk.out.drewN _).below⟩⟩
                  · have HA1 : Hold (∀ x ∈ ps.take (k + 1), bad l had { er := e, ps := ps } x = false) := ⟨mem_take_succ hlt HA.out (by rw [HY.out, hbad]; simp [])⟩
                    clear hbad
                    go_upto_region 11 with (first
                | (go_at_call 124; with_reducible refine (has_calls A' c' _ had id _ wr rfl HX'.out true H4.out).mono ?_; rintro r w1 ⟨rfl, rfl⟩)
                | (go_at_call 125; with_reducible refine (find_calls (some ad) c _ l id _ wr rfl HX.out (j : Int) H5.out).mono ?_; rintro r w1 ⟨rfl, rfl⟩))
                    go_quiet (fail)
                    go_wp2
                    exact ⟨⟨k + 1, by omega, by go_num, HA1, ⟨HBk.out.drewN _⟩⟩, by simp [intOf]; omega⟩
                · have hd := decide_eq_false hle
                  have HA1 : Hold (∀ x ∈ ps.take (k + 1), bad l had { er := e, ps := ps } x = false) := ⟨mem_take_succ hlt HA.out (by rw [HY.out, hbad]; simp [hle])⟩
                  clear hbad
                  go_upto_region 11 with (first
                | (go_at_call 124; with_reducible refine (has_calls A' c' _ had id _ wr rfl HX'.out d4 H4.out).mono ?_; rintro r w1 ⟨rfl, rfl⟩)
                | (go_at_call 125; with_reducible refine (find_calls (some ad) c _ l id _ wr rfl HX.out (j : Int) H5.out).mono ?_; rintro r w1 ⟨rfl, rfl⟩))
                  go_quiet (fail)
                  go_wp2
                  exact ⟨⟨k + 1, by omega, by go_num, HA1, ⟨HBk.out.drewN _⟩⟩, by simp [intOf]; omega⟩
          · obtain rfl : k = ps.length := by omega
            have hb1 : b = true := by
              rw [← HBb2.out, Bool.not_eq_true', List.any_eq_false]
              intro x hx
              have := HA.out
              rw [List.take_length] at this
              rw [this x hx]; decide
            subst hb1
            go_wp2
            go_ret
            exact ⟨rfl, ⟨HBk.out.below⟩⟩
      · have hb1 : b = false := by rw [← HBb.out]; simp [hf]
        subst hb1
        go_enter Try.func122, Try.ntmps122
        go_wp2_with (first
      | (with_reducible refine gateL 75 ?_; refine wpl_loadO isD rfl (ER.size e) hQ' rfl ?_)
      | (with_reducible refine gateA 75 ?_; refine wpl_alloc zeroD hB0.out rfl ?_; intro W2 g2 hB; simp only [List.nil_append] at hB)
      | (with_reducible refine gateS 75 ?_; refine wpl_store (C' := e.cells) isD rfl rfl hB 0 rfl (ER.size _) (ER.size _) (ER.one _) rfl ?_; intro W3 hB; simp only [List.set] at hB; have hc := hB.cell 0 rfl)
      | (go_at_call 124; with_reducible refine (has_calls A' c' _ had e.c.id _ W3 rfl (H'.out.below hB.below) false HH.out).mono ?_; rintro r w1 ⟨rfl, rfl⟩)
      | (go_at_call 125; with_reducible refine (find_calls (some ad) c _ l e.c.id _ W3 rfl (H.out.below hB.below) d3 HFi.out).mono ?_; rintro r w1 ⟨rfl, rfl⟩))
        go_ret
        exact ⟨rfl, ⟨hB.below⟩⟩
    · have hb1 : b = false := by rw [← HBb.out]; rfl
      subst hb1
      go_enter Try.func122, Try.ntmps122
      go_wp2_with (first
      | (with_reducible refine gateL 75 ?_; refine wpl_loadO isD rfl (ER.size e) hQ' rfl ?_)
      | (with_reducible refine gateA 75 ?_; refine wpl_alloc zeroD hB0.out rfl ?_; intro W2 g2 hB; simp only [List.nil_append] at hB)
      | (with_reducible refine gateS 75 ?_; refine wpl_store (C' := e.cells) isD rfl rfl hB 0 rfl (ER.size _) (ER.size _) (ER.one _) rfl ?_; intro W3 hB; simp only [List.set] at hB; have hc := hB.cell 0 rfl)
      | (go_at_call 124; with_reducible refine (has_calls A' c' _ had e.c.id _ W3 rfl (H'.out.below hB.below) true HH.out).mono ?_; rintro r w1 ⟨rfl, rfl⟩)
      | (go_at_call 125; with_reducible refine (find_calls (some ad) c _ l e.c.id _ W3 rfl (H.out.below hB.below) d3 HFi.out).mono ?_; rintro r w1 ⟨rfl, rfl⟩))
      go_ret
      exact ⟨rfl, ⟨hB.below⟩⟩
end Go.Proofs.Ytebhclgnpnlekaa.Ord
