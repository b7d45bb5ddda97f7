/- package check's finder: late, by its walk. No condition. -/
import Derived.Test.YtebhclgnpnlekaaChkV
import Derived.Deep.CutRange
namespace Go.Proofs.Ytebhclgnpnlekaa.Chk
open Go.RowKit Go.Proofs.Ytebhclgnpnlekaa.B Go.Proofs.Ytebhclgnpnlekaa.Cmd Go.Proofs.Ytebhclgnpnlekaa.Agg Go.Proofs.Ytebhclgnpnlekaa.Ent Go.Proofs.Ytebhclgnpnlekaa.Ord
/-- A row that lies apart from a block does not turn with it. -/
theorem row_fr {α : Type} {d : Rep α} {g : Nat} {w w' : World} {A : Option Addr} {xs : List α} (h : Rep.Row d (fun k => k ≠ g) w A xs) (hf : Fr (fun k => k = g) w w') : Rep.Row d (fun k => k ≠ g) w' A xs :=
  h.move fun k hk hlt => ⟨hk, hf.block k hlt hk⟩
/-- The finder, in the midst of its work: nothing else has turned. -/
structure LI (g : Nat) (w2 wr : World) (o : Option Pair) : Prop where
  blk : wr.heap[g]? = some (.cells (fcells o) 175 (0, 0))
  fr : Fr (fun k => k = g) w2 wr
section
variable {g : Nat} {w2 w w' : World} {o o' : Option Pair}
theorem LI.lt (h : LI g w2 w o) : g < w.heap.size := (Array.getElem?_eq_some_iff.1 h.blk).1
theorem LI.below (h : LI g w2 w o) (hb : Below w.heap.size w w') : LI g w2 w' o := ⟨(hb.block g h.lt).trans h.blk, h.fr.trans (Fr.of_below _ hb) (fun _ _ h => h)⟩
theorem LI.found (h : LI g w2 w o) (H : w'.heap[g]? = some (.cells (fcells o') 175 (0, 0)) ∧ Fr (fun k => k = g) w w') : LI g w2 w' o' := ⟨H.1, h.fr.trans H.2 (fun _ _ h => h)⟩
theorem LI.drewN (h : LI g w2 w o) (n : Nat) : LI g w2 (w.drewN n) o := h.below (below_drewN _ _)
end
theorem zeroM : (Try.prog.info? 177).map (fun i => i.zero) = some (some (.agg (mk noER))) := by kernel_rfl
theorem row_i {I : Nat → Prop} {w : World} {A : Option Addr} {xs : List Int} (h : Rep.Row (Rep.int .i64) I w A xs) (i : Nat) (hi : i < xs.length) : ∃ ad, A = some ad ∧ w.cell? (ad.add i) = some (.int .i64 xs[i]) := by
  obtain ⟨ad, cs, e, _, _, ⟨rfl, _⟩, hc⟩ := h.at i hi
  exact ⟨ad, e, by have := hc 0 _ rfl; simpa [Rep.int] using this⟩
/-- The fields of a mark that lies there. -/
theorem mk_fld {w : World} {p : Addr} {x : ER} (h : ∀ (j : Nat) (u : Value), (mk x)[j]? = some u → w.cell? (p.add j) = some u) : w.cell? ⟨p.block, p.off + 2, none⟩ = some (.int .i64 x.c.sym) ∧ w.cell? ⟨p.block, p.off + 7, none⟩ = some (.int .i64 x.v.t) := by
  have add_pos : ∀ j, 0 < j → p.add j = ⟨p.block, p.off + j, none⟩ := fun j hj => by
    unfold Addr.add
    rw [if_neg (by omega)]
  have h2 := h 2 _ rfl
  have h7 := h 7 _ rfl
  rw [add_pos 2 (by omega)] at h2
  rw [add_pos 7 (by omega)] at h7
  exact ⟨h2, h7⟩
/-- What a view brings to the finder. -/
def lateTo (L : List QE) (had : List Int) (o : Option Pair) (i : Nat) : Option Pair := leastFrom o (lateOf (L, had) i)
theorem lateTo_succ (L : List QE) (had : List Int) (o : Option Pair) (i : Nat) (hi : i < had.length) : lateTo L had o (i + 1) = leastFrom (lateTo L had o i) (lateAt (own L) (had.take i) had[i]) := by
  unfold lateTo
  rw [lateOf_succ, leastFrom_append]
  simp [List.getD_eq_getElem?_getD, List.getElem?_eq_getElem hi]
set_option maxHeartbeats 8000000 in
set_option maxRecDepth 100000 in
theorem late_calls (A B : Option Addr) (c d : Nat) (L : List QE) (had : List Int) (o o' : Option Pair) (g : Nat) (w : World) (hg : w.heap[g]? = some (.cells (fcells o) 175 (0, 0))) (h : Rep.Row qeRep (fun k => k ≠ g) w A L) (h' : Rep.Row (Rep.int .i64) (fun k => k ≠ g) w B had) (hd : had.length ≤ d) (hl : L.length ≤ 100000) (ho : lateTo L had o had.length = o') :
    Calls Try.prog 130 #[.pointer (some ⟨g, 0, none⟩), .agg #[.slice A L.length c, .slice B had.length d]] w (Found g o' w) := by
  have hlt : g < w.heap.size := (Array.getElem?_eq_some_iff.1 hg).1
  have hm := h.len_le
  have hm' := h'.len_le
  obtain ⟨hv, hhv⟩ : ∃ b, w.heap.size = b := ⟨_, rfl⟩
  obtain ⟨W, hW⟩ : ∃ W, w.alloc (.cells #[.slice A L.length c, .slice B had.length d] 114) = W := ⟨_, rfl⟩
  have hB : Bs w W [(hv, 114, #[.slice A L.length c, .slice B had.length d])] := by
    have h1 := (Bs.nil w).alloc #[.slice A L.length c, .slice B had.length d] 114
    rw [hW] at h1
    simpa [hhv] using h1
  have hbel := hB.below
  have v0 : W.cell? ⟨hv, 0, none⟩ = some (.slice A L.length c) := hB.cell 0 rfl 0
  have v1 : W.cell? ⟨hv, 1, none⟩ = some (.slice B had.length d) := hB.cell 0 rfl 1
  have hvl : hv < W.heap.size := hB.lt 0 rfl
  have hgW : g < W.heap.size := Nat.lt_of_lt_of_le hlt hbel.size
  have HMk := Hold.mk (marks_calls A B c had.length d L (fun k => k ≠ g ∧ k < W.heap.size) W (fun k hk => hk.2) (Rep.Row.move (w := w) (fun k hk hlt => ⟨⟨hk, Nat.lt_of_lt_of_le hlt hbel.size⟩, hbel.block k hlt⟩) h) hl)
  have HLI0 : Hold (LI g W W o) := ⟨⟨(hbel.block g hlt).trans hg, Fr.refl _ _⟩⟩
  have HRB : Hold (Rep.Row (Rep.int .i64) (fun k => k ≠ g) W B had) := ⟨h'.below hbel⟩
  have HO := Hold.mk ho
  have HBl := Hold.mk hbel
  have HML : Hold ((own L).length ≤ 100000) := ⟨Nat.le_trans (own_len L) hl⟩
  have HN : Hold (hv ≠ g ∧ hv < W.heap.size ∧ g < W.heap.size) := ⟨by omega, hvl, hgW⟩
  have HD := Hold.mk hd
  obtain ⟨M, hMe⟩ : ∃ M, own L = M := ⟨_, rfl⟩
  rw [hMe] at HMk HML
  have HMe := Hold.mk hMe
  clear hg h h' hd hl ho hB hbel hvl hgW hlt hMe
  go_enter Try.func130, Try.ntmps130
  go_upto_region 2 with (go_at_call 126; with_reducible refine HMk.out.mono ?_; rintro r w2 ⟨v, rfl, HM⟩)
  try simp only [Act.put, List.setIfInBounds_toArray, List.set_cons_zero, List.set_cons_succ]
  obtain ⟨MA, mc, rfl, _, _⟩ := HM.out.own.len_form
  have hb2 := HM.out.bel
  have v1' := (below_cell hb2 (p := ⟨hv, 1, none⟩) HN.out.2.1).trans v1
  have HV1 := Hold.mk v1'
  have HL2 : Hold (LI g W w2 o) := ⟨HLI0.out.below hb2⟩
  have HRB2 : Hold (Rep.Row (Rep.int .i64) (fun k => k ≠ g) w2 B had) := ⟨HRB.out.below hb2⟩
  have HRM2 : Hold (Rep.Row markRep (fun k => k ≠ g) w2 MA M) := ⟨HM.out.own.row.move fun k hk _ => ⟨hk.elim (fun h => h.1) (fun h e => by have := (HM.out.own.block_lt k h).1; have := HN.out.2.2; omega), rfl⟩⟩
  have HN2 : Hold (hv ≠ g ∧ hv < w2.heap.size) := ⟨HN.out.1, Nat.lt_of_lt_of_le HN.out.2.1 hb2.size⟩
  have HBl2 : Hold (Below w.heap.size w w2) := ⟨HBl.out.trans (hb2.mono HBl.out.size)⟩
  have HLB : Hold (LI g w2 w2 o) := ⟨⟨HL2.out.blk, Fr.refl _ _⟩⟩
  clear v0 v1 hW hhv hb2 HM HMk HLI0 HRB HL2 HN HBl
  go_upto_region 3 with (fail)
  clear v1'
  go_loopw [16] (fun s wr => ∃ i : Nat, i ≤ had.length ∧ s = .int .i64 (i : Int) ∧ Hold (LI g w2 wr (lateTo L had o i))) (fun s _ => had.length - (intOf s).toNat)
  case atStart => exact ⟨0, by omega, rfl, HLB⟩
  case round =>
    obtain ⟨i, hi, rfl, HI⟩ := hrel
    by_cases hlt : i < had.length
    · have l1 : (i : Int) < (had.length : Int) := by omega
      have v1 := (HI.out.fr.cell (p := ⟨hv, 1, none⟩) HN2.out.2 HN2.out.1).trans HV1.out
      have hrb := row_fr HRB2.out HI.out.fr
      obtain ⟨bd, rfl, c0⟩ := row_i hrb i hlt
      have hsu := lateTo_succ L had o i hlt
      obtain ⟨id, hid⟩ : ∃ id, had[i] = id := ⟨_, rfl⟩
      rw [hid] at c0 hsu
      obtain ⟨o1, ho1⟩ : ∃ o1, lateTo L had o i = o1 := ⟨_, rfl⟩
      rw [ho1] at hsu HI
      rw [HMe.out] at hsu
      have HSu := Hold.mk hsu
      obtain ⟨bx, hbx⟩ : ∃ b, wr.heap.size = b := ⟨_, rfl⟩
      have li : (i : Int) ≤ (d : Int) := by have := HD.out; omega
      obtain ⟨W4, hW4⟩ : ∃ W4, wr.alloc (.cells #[.int .i64 id] 3) = W4 := ⟨_, rfl⟩
      have hal : Below wr.heap.size wr W4 := by rw [← hW4]; exact (Below.refl _ _).alloc (Nat.le_refl _) _
      have hb4 : W4.heap[bx]? = some (.cells #[.int .i64 id] 3 (0, 0)) := by rw [← hW4, ← hbx]; exact Array.getElem?_push_size ..
      have cb := cell_heap hb4 0
      have hbl : bx < W4.heap.size := (Array.getElem?_eq_some_iff.1 hb4).1
      have v4 := (below_cell hal (p := ⟨hv, 1, none⟩) (Nat.lt_of_lt_of_le HN2.out.2 HI.out.fr.size)).trans v1
      have HI4 : Hold (LI g w2 W4 o1) := ⟨HI.out.below hal⟩
      have HRM4 : Hold (Rep.Row markRep (fun k => k ≠ g) W4 MA M) := ⟨row_fr HRM2.out HI4.out.fr⟩
      have HIx := Hold.mk (indexM_calls MA mc M id bx _ W4 hbl cb HRM4.out)
      have HCt : Hold (∀ w', Fr (fun k => k = g) w2 w' → ∀ z b, (had.take i).contains z = b → Calls Try.prog 151 #[.slice (some bd) i d, .int .i64 z] w' fun e w'' => e = .returned (.bool b) ∧ w' = w'') := ⟨fun w' hw' z b hzb => contains_calls (some bd) d i (had.take i) z _ w' (by rw [List.length_take]; omega) ((row_fr HRB2.out hw').take i) b hzb⟩
      obtain ⟨bc, hbc⟩ : ∃ b, (had.take i).contains id = b := ⟨_, rfl⟩
      have HBc := Hold.mk hbc
      have HBx : Hold (bx < W4.heap.size ∧ bx ≠ g) := ⟨hbl, by have := HI.out.lt; omega⟩
      clear hid ho1 hsu hrb v1 hal hb4 hbl hbc
      rcases place M id with ⟨hp1, hp2⟩ | ⟨k, hk, hp1, hp2, hp3⟩
      · have HSu2 : Hold (lateTo L had o (i + 1) = put o1 (some (id, 0))) := ⟨by rw [HSu.out, lateAt_none hp2]; rfl⟩
        rw [hp1] at HIx
        clear hp1 hp2
        go_wp2_with (first
          | (go_at_call 148; refine (put_calls o1 _ id 0 g w5 (HI4.out.below HB5.out).blk rfl).mono ?_; rintro r w6 ⟨rfl, H6⟩)
          | (refine HIx.out.mono ?_; rintro r w5 ⟨rfl, HB5⟩; replace cb := (below_cell HB5.out (p := ⟨bx, 0, none⟩) HBx.out.1).trans cb))
        exact ⟨⟨i + 1, by omega, by go_num, ⟨by rw [HSu2.out]; exact (HI4.out.below HB5.out).found H6.out⟩⟩, by simp [intOf]; omega⟩
      · have l2 : ¬ (k : Int) < 0 := by omega
        have l3 := decide_eq_false l2
        have l4 : (k : Int) < (M.length : Int) := by omega
        obtain ⟨a, ha⟩ : ∃ a, M[k] = a := ⟨_, rfl⟩
        have HA := Hold.mk ha
        have HCb := Hold.mk cb
        have HSu2 : Hold (lateTo L had o (i + 1) = leastFrom (put o1 (if bc = true then some (id, 0) else none)) (M.map (lateQ a (had.take i) id))) := ⟨by rw [HSu.out, lateAt_some hp2, HBc.out, ha]; rfl⟩
        rw [hp1] at HIx
        clear hp1 hp2 hp3 ha
        obtain ⟨o2, ho2⟩ : ∃ o2, put o1 (if bc = true then some (id, 0) else none) = o2 := ⟨_, rfl⟩
        rw [ho2] at HSu2
        have HO2 := Hold.mk ho2
        have hmM : M.length ≤ 9223372036854775807 := by have := HML.out; omega
        clear ho2
        go_upto_if 34 with (first
          | (go_at_call 151; refine (HCt.out w5 (HI4.out.below HB5.out).fr _ _ HBc.out).mono ?_; rintro r w7 ⟨rfl, rfl⟩)
          | (refine HIx.out.mono ?_; rintro r w5 ⟨rfl, HB5⟩; replace cb := (below_cell HB5.out (p := ⟨bx, 0, none⟩) HBx.out.1).trans cb))
        try simp only [Act.put, List.setIfInBounds_toArray, List.set_cons_zero, List.set_cons_succ]
        have HI5 : Hold (LI g W4 w5 o1) := ⟨⟨(HI4.out.below HB5.out).blk, Fr.of_below _ HB5.out⟩⟩
        clear v4 c0 hW4 hbx HB5
        go_cut [16] from 16 to 83 (fun s16 wx => s16 = .int .i64 (i : Int) ∧ Hold (LI g W4 wx o2))
        case first =>
          cases bc
          · have HIo : Hold (LI g W4 w5 o2) := ⟨by rw [← HO2.out]; exact HI5.out⟩
            go_wp2_with fail
            go_meet
            case rel => exact ⟨rfl, HIo⟩
          · go_wp2_with (go_at_call 148; refine (put_calls o1 o2 id 0 g w5 HI5.out.blk HO2.out).mono ?_; rintro r w6 ⟨rfl, HP6⟩)
            go_meet
            case rel => exact ⟨rfl, ⟨HI5.out.found HP6.out⟩⟩
        case rest =>
          obtain ⟨rfl, HIc⟩ := hcut
          have HF46 : Hold (Fr (fun k => k = g) W4 wc) := ⟨HIc.out.fr⟩
          have H6 : Hold (wc.heap[g]? = some (.cells (fcells o2) 175 (0, 0))) := ⟨HIc.out.blk⟩
          go_upto_region 11 with (fail)
          try simp only [Act.put, List.setIfInBounds_toArray, List.set_cons_zero, List.set_cons_succ]
          have HRM6 : Hold (Rep.Row markRep (fun k => k ≠ g) wc MA M) := ⟨row_fr HRM4.out HF46.out⟩
          have HF26 : Hold (Fr (fun k => k = g) w2 wc) := ⟨HI4.out.fr.trans HF46.out (fun _ _ h => h)⟩
          have HB6 : Hold (wc.cell? ⟨bx, 0, none⟩ = some (.int .i64 id) ∧ bx < wc.heap.size) := ⟨(HF46.out.cell (p := ⟨bx, 0, none⟩) HBx.out.1 HBx.out.2).trans HCb.out, Nat.lt_of_lt_of_le HBx.out.1 HF46.out.size⟩
          have HLI6 : Hold (LI g wc wc o2) := ⟨⟨H6.out, Fr.refl _ _⟩⟩
          clear HF46 H6 cb
          go_loopw [42] (fun s wr => ∃ q : Nat, q ≤ M.length ∧ s = .int .i64 (q : Int) ∧ Hold (LI g wc wr (leastFrom o2 ((M.take q).map (lateQ a (had.take i) id))))) (fun s _ => M.length - (intOf s).toNat)
          case atStart => exact ⟨0, by omega, rfl, HLI6⟩
          case round =>
            obtain ⟨q, hq, rfl, HJ⟩ := hrel
            by_cases hlq : q < M.length
            · have l5 : (q : Int) < (M.length : Int) := by omega
              have hrow := row_fr HRM6.out HJ.out.fr
              obtain ⟨ad, p, rfl, hp, _, hQ, _⟩ := row_mk hrow q hlq
              obtain ⟨ad2, pa, hA2, hpa, hpal, hQa, _⟩ := row_mk hrow k hk
              cases hA2
              rw [HA.out] at hQa
              have hss := step_succ o2 (lateQ a (had.take i) id) M q hlq
              obtain ⟨e, he⟩ : ∃ e, M[q] = e := ⟨_, rfl⟩
              rw [he] at hQ hss
              obtain ⟨x, pe⟩ := e
              obtain ⟨y, py⟩ := a
              replace hQ : ∀ (j : Nat) (u : Value), (mk x)[j]? = some u → wr.cell? (p.add j) = some u := hQ
              replace hQa : ∀ (j : Nat) (u : Value), (mk y)[j]? = some u → wr.cell? (pa.add j) = some u := hQa
              obtain ⟨a2, a7⟩ := mk_fld hQa
              have cb := (HJ.out.fr.cell (p := ⟨bx, 0, none⟩) HB6.out.2 HBx.out.2).trans HB6.out.1
              have cbl := Nat.lt_of_lt_of_le HB6.out.2 HJ.out.fr.size
              obtain ⟨b1, hb1⟩ : ∃ b, (x.c.sym == y.c.sym) = b := ⟨_, rfl⟩
              obtain ⟨b2, hb2⟩ : ∃ b, decide (x.v.t < y.v.t) = b := ⟨_, rfl⟩
              obtain ⟨b3, hb3⟩ : ∃ b, (had.take i).contains x.c.id = b := ⟨_, rfl⟩
              obtain ⟨oq, hoq⟩ : ∃ oq, leastFrom o2 ((M.take q).map (lateQ ⟨y, py⟩ (had.take i) id)) = oq := ⟨_, rfl⟩
              rw [hoq] at hss HJ
              have HSs : Hold (leastFrom o2 ((M.take (q + 1)).map (lateQ ⟨y, py⟩ (had.take i) id)) = put oq (if (b1 && b2 && !b3) = true then some (x.c.id, id) else none)) := ⟨by
                rw [← hss, ← hb1, ← hb2, ← hb3]
                congr 1
                unfold lateQ
                by_cases e1 : x.c.sym = y.c.sym <;> by_cases e2 : x.v.t < y.v.t <;> simp [QE.t, QE.id, e1, e2]⟩
              have HB3 := Hold.mk hb3
              have hB0 := Bs.nil wr
              clear hrow he hss hoq hb3 hQa
              go_upto_region 13 with (first
                | (with_reducible refine gateL 177 ?_; refine wpl_loadO isM rfl (mk_size x) hQ rfl ?_)
                | (with_reducible refine gateA 177 ?_; refine wpl_alloc zeroM hB0 rfl ?_; intro W2 gm hB; simp only [List.nil_append] at hB)
                | (with_reducible refine gateS 177 ?_; refine wpl_store (C' := mk x) isM rfl rfl hB 0 rfl (mk_size _) (mk_size _) (mk_one _) rfl ?_; intro W3 hB; simp only [List.set] at hB))
              try simp only [Act.put, List.setIfInBounds_toArray, List.set_cons_zero, List.set_cons_succ]
              have m0 : W3.cell? ⟨gm, 0, none⟩ = some (.int .i64 x.c.id) := hB.cell 0 rfl 0
              have m2 : W3.cell? ⟨gm, 2, none⟩ = some (.int .i64 x.c.sym) := hB.cell 0 rfl 2
              have m7 : W3.cell? ⟨gm, 7, none⟩ = some (.int .i64 x.v.t) := hB.cell 0 rfl 7
              replace a2 := (below_cell hB.below (p := ⟨pa.block, pa.off + 2, none⟩) hpal).trans a2
              replace a7 := (below_cell hB.below (p := ⟨pa.block, pa.off + 7, none⟩) hpal).trans a7
              replace cb := (below_cell hB.below (p := ⟨bx, 0, none⟩) cbl).trans cb
              have HJ3 : Hold (∀ n, LI g wc (W3.drewN n) oq) := ⟨fun n => (HJ.out.below hB.below).drewN n⟩
              have HC : Hold (∀ n, Calls Try.prog 151 #[.slice (some bd) i d, .int .i64 x.c.id] (W3.drewN n) fun e w' => e = .returned (.bool b3) ∧ W3.drewN n = w') := ⟨fun n => HCt.out _ (HF26.out.trans (HJ3.out n).fr (fun _ _ h => h)) _ _ HB3.out⟩
              obtain ⟨ix, hix⟩ : ∃ z, x.c.id = z := ⟨_, rfl⟩
              obtain ⟨sx, hsx⟩ : ∃ z, x.c.sym = z := ⟨_, rfl⟩
              obtain ⟨tx, htx⟩ : ∃ z, x.v.t = z := ⟨_, rfl⟩
              obtain ⟨sy, hsy⟩ : ∃ z, y.c.sym = z := ⟨_, rfl⟩
              obtain ⟨ty, hty⟩ : ∃ z, y.v.t = z := ⟨_, rfl⟩
              rw [hix] at m0 HSs HC
              rw [hsx] at m2 hb1
              rw [htx] at m7 hb2
              rw [hsy] at a2 hb1
              rw [hty] at a7 hb2
              have HPt : Hold (∀ n oz, put oq (some (ix, id)) = oz → Calls Try.prog 148 #[.pointer (some ⟨g, 0, none⟩), .int .i64 ix, .int .i64 id] (W3.drewN n) fun r w' => r = .returned (.tuple #[]) ∧ Hold (w'.heap[g]? = some (.cells (fcells oz) 175 (0, 0)) ∧ Fr (fun k => k = g) (W3.drewN n) w')) := ⟨fun n oz h => put_calls oq oz ix id g _ (HJ3.out n).blk h⟩
              clear hB0 hB hQ hix hsx htx hsy hty
              cases b1
              · go_big_quiet (fail)
                go_wp2
                exact ⟨⟨q + 1, by omega, by go_num, ⟨by rw [HSs.out]; exact HJ3.out nq⟩⟩, by simp [intOf]; omega⟩
              · cases b2
                · go_big_quiet (fail)
                  go_wp2
                  exact ⟨⟨q + 1, by omega, by go_num, ⟨by rw [HSs.out]; exact HJ3.out nq⟩⟩, by simp [intOf]; omega⟩
                · cases b3
                  · go_big_quiet (exact quiet_left (HC.out _))
                    go_wp2_with (go_at_call 148; refine (HPt.out _ _ rfl).mono ?_; rintro r w8 ⟨rfl, H8⟩)
                    exact ⟨⟨q + 1, by omega, by go_num, ⟨by rw [HSs.out]; exact (HJ3.out nq).found H8.out⟩⟩, by simp [intOf]; omega⟩
                  · go_big_quiet (exact quiet_left (HC.out _))
                    go_wp2
                    exact ⟨⟨q + 1, by omega, by go_num, ⟨by rw [HSs.out]; exact HJ3.out nq⟩⟩, by simp [intOf]; omega⟩
            · obtain rfl : q = M.length := by omega
              have HIn : Hold (LI g w2 wr (lateTo L had o (i + 1))) := ⟨by
                rw [HSu2.out]
                have := HJ.out
                rw [List.take_length] at this
                exact ⟨this.blk, HF26.out.trans this.fr (fun _ _ h => h)⟩⟩
              go_wp2
              exact ⟨⟨i + 1, by omega, by go_num, HIn⟩, by simp [intOf]; omega⟩

    · obtain rfl : i = had.length := by omega
      go_wp2
      exact Great.bodyPost_end0 rfl rfl ⟨rfl, ⟨by rw [← HO.out]; exact HI.out.blk, (Fr.of_below _ HBl2.out).trans HI.out.fr (fun _ _ h => h)⟩⟩
end Go.Proofs.Ytebhclgnpnlekaa.Chk
