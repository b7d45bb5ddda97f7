/- Sets of commands as the document makes them: put, Of, Union, Ids, SameIds, by their walks; package preds' Ids. No condition. -/
import Derived.Test.YtebhclgnpnlekaaPr1
import Derived.Test.YtebhclgnpnlekaaSame
namespace Go.Proofs.Ytebhclgnpnlekaa.Pr
open Go.RowKit Go.Proofs.Ytebhclgnpnlekaa.B Go.Proofs.Ytebhclgnpnlekaa.Cmd Go.Proofs.Ytebhclgnpnlekaa.Agg
open Go.Proofs.Ytebhclgnpnlekaa.Rd (zeroCmd)

/-- A command more, rising. -/
def insL (c : CmdD) : List CmdD → List CmdD
  | [] => [c]
  | x :: xs => if c.id < x.id then c :: x :: xs else x :: insL c xs
def gt (c : CmdD) : CmdD → Bool := fun x => decide (c.id < x.id)
theorem ins_any (c : CmdD) : ∀ (t : List CmdD) (x : CmdD), t.any (gt c) = true → insL c (t ++ [x]) = insL c t ++ [x]
  | [], x, h => by cases h
  | y :: t, x, h => by
    rw [List.cons_append, insL, insL]
    by_cases hy : c.id < y.id
    · rw [if_pos hy, if_pos hy]; rfl
    · rw [if_neg hy, if_neg hy, ins_any c t x (by simpa [gt, hy] using h)]; rfl
theorem ins_none (c : CmdD) : ∀ (t : List CmdD), t.any (gt c) = false → insL c t = t ++ [c]
  | [], h => rfl
  | y :: t, h => by
    have hy : ¬ c.id < y.id := by
      intro hy
      simp [gt, hy] at h
    rw [insL, if_neg hy, ins_none c t (by simpa [gt, hy] using h)]; rfl
theorem ins_here (c : CmdD) : ∀ (t : List CmdD) (x : CmdD), t.any (gt c) = false → c.id < x.id → insL c (t ++ [x]) = t ++ [c] ++ [x]
  | [], x, h, hx => by rw [List.nil_append, insL, if_pos hx]; rfl
  | y :: t, x, h, hx => by
    have hy : ¬ c.id < y.id := by
      intro hy
      simp [gt, hy] at h
    rw [List.cons_append, insL, if_neg hy, ins_here c t x (by simpa [gt, hy] using h) hx]; rfl
theorem any_snoc (c : CmdD) (t : List CmdD) (x : CmdD) : (t ++ [x]).any (gt c) = (t.any (gt c) || gt c x) := by simp
theorem ins_length (c : CmdD) (l : List CmdD) : (insL c l).length = l.length + 1 := by
  induction l with
  | nil => rfl
  | cons x l ih => rw [insL]; split <;> simp [ih]
def putL (l : List CmdD) (c : CmdD) : List CmdD := if (findS l c.id).2 = true then l else insL c l
theorem put_length (l : List CmdD) (c : CmdD) : (putL l c).length ≤ l.length + 1 := by
  unfold putL; split
  · omega
  · rw [ins_length]; omega
/-- One of a name that is not another one. -/
def badL (o : List CmdD) (c : CmdD) : Bool := (findS o c.id).2 && decide ((findS o c.id).1 ≠ c)
def foldR : List CmdD → List CmdD → Option (List CmdD)
  | o, [] => some o
  | o, c :: l => if badL o c = true then none else foldR (putL o c) l
/-- The set of commands. -/
def ofS (l : List CmdD) : List CmdD × Int := if okCmds l = true then match foldR [] l with | none => ([], 6) | some o => if 1024 < o.length then ([], 4) else (o, 0) else ([], 1)

theorem CO.lift {w W w' : World} {v : Value} {xs : List CmdD} (h : CO W w' v xs) (hb : Below w.heap.size w W) : CO w w' v xs := ⟨h.own.lower hb.size, hb.trans (h.bel.mono hb.size)⟩
theorem CO.drewN {w w' : World} {v : Value} {xs : List CmdD} (h : CO w w' v xs) (n : Nat) : CO w (w'.drewN n) v xs := h.below (below_drewN _ _)

set_option maxHeartbeats 8000000 in
set_option maxRecDepth 100000 in
/-- The document's put. -/
theorem put_calls (A : Option Addr) (c n : Nat) (l : List CmdD) (x : CmdD) (I : Nat → Prop) (w : World) (hn : n = l.length) (h : Rep.Row cmdRep I w A l) (hw : x.wf) (hl : l.length ≤ 900000) :
    Calls Try.prog 93 #[.slice A n c, x.v] w fun e w' => ∃ v, e = .returned v ∧ Hold (CO w w' v (putL l x)) := by
  subst hn
  have H := Hold.mk h
  have HW := Hold.mk hw
  have HL := Hold.mk hl
  have hm := h.len_le
  clear h hw hl
  obtain ⟨g, hg⟩ : ∃ g, w.heap.size = g := ⟨_, rfl⟩
  obtain ⟨W, hW⟩ : ∃ W, w.alloc (.cells (arr x) 45) = W := ⟨_, rfl⟩
  have hB : Bs w W [(g, 45, arr x)] := by
    have h1 := (Bs.nil w).alloc (arr x) 45
    rw [hW] at h1
    simpa [hg] using h1
  have hci := hB.cell 0 rfl 0
  have HB := Hold.mk hB
  have hq : decide (0 ≤ firstOf (byId x.id) l) = (findS l x.id).2 := by
    have h1 := first_lt l x.id
    by_cases h2 : firstOf (byId x.id) l < 0
    · rw [decide_eq_true h2] at h1
      rw [decide_eq_false (by omega)]
      cases hz : (findS l x.id).2 <;> simp [hz] at h1 ⊢
    · rw [decide_eq_false h2] at h1
      rw [decide_eq_true (by omega)]
      cases hz : (findS l x.id).2 <;> simp [hz] at h1 ⊢
  obtain ⟨fi, hfi⟩ : ∃ n, firstOf (byId x.id) l = n := ⟨_, rfl⟩
  rw [hfi] at hq
  have HFi := Hold.mk hfi
  have HH : Hold (Rep.Row cmdRep I W A l) := ⟨H.out.below hB.below⟩
  clear hfi hB
  cases hb : (findS l x.id).2
  · rw [hb] at hq
    have HP : Hold (putL l x = insL x l) := ⟨by rw [putL, if_neg (by rw [hb]; decide)]⟩
    clear hb
    go_enter Try.func93, Try.ntmps93
    go_wp2_with fail
    refine (refFind_calls A c _ l x.id I W rfl HH.out).mono ?_
    rw [HFi.out]
    rintro e w1 ⟨rfl, rfl⟩
    go_wp2
    go_loopw [5, 6, 7] (fun v d s wr => ∃ i : Nat, i ≤ l.length ∧ s = .int .i64 (i : Int) ∧ ∃ dn : Bool, d = .bool dn ∧ Hold (dn = (l.take i).any (gt x)) ∧ Hold (CO W wr v (if dn = true then insL x (l.take i) else l.take i))) (fun _ _ s _ => l.length - (intOf s).toNat)
    case atStart => exact ⟨0, by omega, rfl, false, rfl, ⟨rfl⟩, ⟨CO.nil W⟩⟩
    case round =>
      obtain ⟨i, hi, rfl, dn, rfl, HD, HO⟩ := hrel
      by_cases hlt : i < l.length
      · have l1 : (i : Int) < (l.length : Int) := by omega
        obtain ⟨ad, p, rfl, hp, _, ⟨c0, c1, c2, c3, c4, c5, c6, hw⟩⟩ := row_cmd (HH.out.below HO.out.bel) i hlt
        obtain ⟨y, hy⟩ : ∃ x, l[i] = x := ⟨_, rfl⟩
        rw [hy] at c0 c1 c2 c3 c4 c5 c6 hw
        have HT : Hold (l.take (i + 1) = l.take i ++ [y]) := ⟨by rw [List.take_succ_eq_append_getElem hlt, hy]⟩
        have HTl : Hold ((l.take i).length ≤ 900000) := ⟨by rw [List.length_take]; have := HL.out; omega⟩
        have HWy := Hold.mk hw
        have hBr := HB.out.step HO.out.bel
        have hcr := hBr.cell 0 rfl 0
        have HYe := Hold.mk hy
        clear hy hw
        obtain ⟨t, ht⟩ : ∃ t, l.take i = t := ⟨_, rfl⟩
        rw [ht] at HD HO HT HTl
        clear ht
        cases dn
        · have HO0 : Hold (CO W wr u5 t) := HO
          by_cases hgt : x.id < y.id
          · have hgd : decide (x.id < y.id) = true := decide_eq_true hgt
            have HI1 : Hold (insL x (l.take (i + 1)) = t ++ [x] ++ [y]) := ⟨by rw [HT.out]; exact ins_here x t y HD.out.symm hgt⟩
            have HA : Hold (true = (l.take (i + 1)).any (gt x)) := ⟨by rw [HT.out, any_snoc, ← HD.out]; simp [gt, hgt]⟩
            clear hgt HD HO
            go_wp2
            go_quiet (fail)
            have HO1 := Hold.mk (HO0.out.drewN nq)
            have hb2 := hBr.drewN nq
            have HRq := Hold.mk ((HH.out.below HO0.out.bel).drewN nq)
            clear hBr hcr c0 c1 c2 c3 c4 c5 c6
            obtain ⟨w2, hw2⟩ : ∃ w2, wr.drewN nq = w2 := ⟨_, rfl⟩
            rw [hw2] at HO1 hb2 HRq
            rw [hw2]
            clear hw2
            go_upto_region 9 with (first
              | (with_reducible refine gateL 45 ?_; refine wpl_load isC rfl hb2 0 rfl (arr_size _) rfl ?_)
              | (at_builtin; refine wp_pushC rfl (.tmp 31) (.tmp 33) rfl u5 t x rfl rfl HO1.out HW.out (by have := HTl.out; omega) ?_; intro A1 c1 w1 HG))
            obtain ⟨ad', p', e, hp', _, ⟨c0, c1', c2, c3, c4, c5, c6, _⟩⟩ := row_cmd (HH.out.below HG.out.bel) i hlt
            cases e
            obtain rfl : p = p' := hp.symm.trans hp'
            rw [HYe.out] at c0 c1' c2 c3 c4 c5 c6
            clear hp'
            have HTx : Hold ((t ++ [x]).length ≤ 1000000) := ⟨by rw [List.length_append]; have := HTl.out; simp; omega⟩
            obtain ⟨tx, htx⟩ : ∃ tx, t ++ [x] = tx := ⟨_, rfl⟩
            obtain ⟨v9, hv9⟩ : ∃ v, Value.slice A1 (t.length + 1) c1 = v := ⟨_, rfl⟩
            rw [htx] at HG HTx HI1
            rw [hv9] at HG
            rw [hv9]
            clear htx hv9
            go_wp2_with (at_builtin; refine wp_pushC rfl (.tmp 35) (.tmp 40) rfl v9 tx y rfl rfl HG.out HWy.out HTx.out ?_; intro A2 c2 w2 HG2)
            exact ⟨⟨i + 1, by omega, by go_num, true, rfl, HA, ⟨by rw [if_pos rfl, HI1.out]; exact HG2.out⟩⟩, by simp [intOf]; omega⟩
          · have hgd : decide (x.id < y.id) = false := decide_eq_false hgt
            have HA : Hold (false = (l.take (i + 1)).any (gt x)) := ⟨by rw [HT.out, any_snoc, ← HD.out]; simp [gt]; omega⟩
            clear hgt HD HO
            go_wp2
            go_quiet (fail)
            have HO1 := Hold.mk (HO0.out.drewN nq)
            go_wp2_with (at_builtin; refine wp_pushC rfl (.tmp 35) (.tmp 40) rfl u5 t y rfl rfl HO1.out HWy.out (by have := HTl.out; omega) ?_; intro A2 c2 w2 HG2)
            exact ⟨⟨i + 1, by omega, by go_num, false, rfl, HA, ⟨by rw [if_neg (by decide), HT.out]; exact HG2.out⟩⟩, by simp [intOf]; omega⟩
        · have HO0 : Hold (CO W wr u5 (insL x t)) := HO
          have HI1 : Hold (insL x (l.take (i + 1)) = insL x t ++ [y]) := ⟨by rw [HT.out]; exact ins_any x t y HD.out.symm⟩
          have HA : Hold (true = (l.take (i + 1)).any (gt x)) := ⟨by rw [HT.out, any_snoc, ← HD.out]; rfl⟩
          have HTx : Hold ((insL x t).length ≤ 1000000) := ⟨by rw [ins_length]; have := HTl.out; omega⟩
          obtain ⟨tx, htx⟩ : ∃ tx, insL x t = tx := ⟨_, rfl⟩
          rw [htx] at HO0 HI1 HTx
          clear htx HD HO
          go_wp2
          go_quiet (fail)
          have HO1 := Hold.mk (HO0.out.drewN nq)
          go_wp2_with (at_builtin; refine wp_pushC rfl (.tmp 35) (.tmp 40) rfl u5 tx y rfl rfl HO1.out HWy.out HTx.out ?_; intro A2 c2 w2 HG2)
          exact ⟨⟨i + 1, by omega, by go_num, true, rfl, HA, ⟨by rw [if_pos rfl, HI1.out]; exact HG2.out⟩⟩, by simp [intOf]; omega⟩
      · obtain rfl : i = l.length := by omega
        rw [List.take_length] at HD HO
        have hBr := HB.out.step HO.out.bel
        have HBl : Hold (Below w.heap.size w W) := ⟨HB.out.below⟩
        cases dn
        · have HO0 : Hold (CO W wr u5 l) := HO
          have HI : Hold (insL x l = l ++ [x]) := ⟨ins_none x l HD.out.symm⟩
          clear HO
          go_wp2_with (first
            | (with_reducible refine gateL 45 ?_; refine wpl_load isC rfl hBr 0 rfl (arr_size _) rfl ?_)
            | (at_builtin; refine wp_pushC rfl (.tmp 44) (.tmp 46) rfl u5 l x rfl rfl HO0.out HW.out (by have := HL.out; omega) ?_; intro A1 c1 w1 HG))
          go_ret
          exact ⟨_, rfl, ⟨by rw [HP.out, HI.out]; exact HG.out.lift HBl.out⟩⟩
        · have HO0 : Hold (CO W wr u5 (insL x l)) := HO
          clear HO
          go_wp2
          go_ret
          exact ⟨_, rfl, ⟨by rw [HP.out]; exact HO0.out.lift HBl.out⟩⟩
  · rw [hb] at hq
    have HP : Hold (putL l x = l) := ⟨by rw [putL, if_pos hb]⟩
    clear hb
    go_enter Try.func93, Try.ntmps93
    go_wp2_with fail
    refine (refFind_calls A c _ l x.id I W rfl HH.out).mono ?_
    rw [HFi.out]
    rintro e w1 ⟨rfl, rfl⟩
    go_wp2
    go_loopw [5, 6, 7] (fun v d s wr => ∃ i : Nat, i ≤ l.length ∧ s = .int .i64 (i : Int) ∧ d = .bool true ∧ Hold (CO W wr v (l.take i))) (fun _ _ s _ => l.length - (intOf s).toNat)
    case atStart => exact ⟨0, by omega, rfl, rfl, ⟨CO.nil W⟩⟩
    case round =>
      obtain ⟨i, hi, rfl, rfl, HO⟩ := hrel
      by_cases hlt : i < l.length
      · have l1 : (i : Int) < (l.length : Int) := by omega
        obtain ⟨ad, p, rfl, hp, _, ⟨c0, c1, c2, c3, c4, c5, c6, hw⟩⟩ := row_cmd (HH.out.below HO.out.bel) i hlt
        obtain ⟨y, hy⟩ : ∃ x, l[i] = x := ⟨_, rfl⟩
        rw [hy] at c0 c1 c2 c3 c4 c5 c6 hw
        have HT : Hold (l.take (i + 1) = l.take i ++ [y]) := ⟨by rw [List.take_succ_eq_append_getElem hlt, hy]⟩
        have HTl : Hold ((l.take i).length ≤ 900000) := ⟨by rw [List.length_take]; have := HL.out; omega⟩
        have HWy := Hold.mk hw
        clear hy hw
        obtain ⟨t, ht⟩ : ∃ t, l.take i = t := ⟨_, rfl⟩
        rw [ht] at HO HT HTl
        clear ht
        go_wp2
        go_quiet (fail)
        have HO1 := Hold.mk (HO.out.drewN nq)
        go_wp2_with (at_builtin; refine wp_pushC rfl (.tmp 35) (.tmp 40) rfl u5 t y rfl rfl HO1.out HWy.out (by have := HTl.out; omega) ?_; intro A2 c2 w2 HG2)
        exact ⟨⟨i + 1, by omega, by go_num, rfl, ⟨by rw [HT.out]; exact HG2.out⟩⟩, by simp [intOf]; omega⟩
      · obtain rfl : i = l.length := by omega
        have HBl : Hold (Below w.heap.size w W) := ⟨HB.out.below⟩
        go_wp2
        go_ret
        exact ⟨_, rfl, ⟨by rw [HP.out]; have := HO.out.lift HBl.out; rwa [List.take_length] at this⟩⟩
theorem foldR_app (t s : List CmdD) : ∀ o, foldR o (t ++ s) = (foldR o t).bind fun o' => foldR o' s := by
  induction t with
  | nil => intro o; rfl
  | cons x t ih =>
    intro o
    rw [List.cons_append, foldR, foldR]
    by_cases h : badL o x = true
    · rw [if_pos h, if_pos h]; rfl
    · rw [if_neg h, if_neg h, ih]
theorem foldR_snoc {t o' : List CmdD} {x : CmdD} (h : foldR [] t = some o') (hb : badL o' x = false) : foldR [] (t ++ [x]) = some (putL o' x) := by
  rw [foldR_app, h]
  show foldR o' [x] = _
  rw [foldR, if_neg (by rw [hb]; decide)]
  rfl
theorem foldR_bad {t s o' : List CmdD} {x : CmdD} (h : foldR [] t = some o') (hb : badL o' x = true) : foldR [] (t ++ x :: s) = none := by
  rw [foldR_app, h]
  show foldR o' (x :: s) = _
  rw [foldR, if_pos hb]
def OfSaid (l : List CmdD) (w : World) (e : Ending) (w' : World) : Prop := ∃ v, e = .returned (.tuple #[v, .int .i64 (ofS l).2]) ∧ Hold (CO w w' v (ofS l).1)
set_option maxHeartbeats 8000000 in
set_option maxRecDepth 100000 in
/-- The document's Of. -/
theorem refOf_calls (A : Option Addr) (c n : Nat) (l : List CmdD) (I : Nat → Prop) (w : World) (hn : n = l.length) (h : Rep.Row cmdRep I w A l) (hl : l.length ≤ 900000) :
    Calls Try.prog 40 #[.slice A n c] w (OfSaid l w) := by
  subst hn
  have H := Hold.mk h
  have HL := Hold.mk hl
  have hm := h.len_le
  obtain ⟨ok, hok⟩ : ∃ b, okCmds l = b := ⟨_, rfl⟩
  have HR := Hold.mk (fun W (hb : Below w.heap.size w W) => refRight_calls A c l.length l I W rfl (h.below hb) ok hok)
  have HOf : Hold (ofS l = if ok = true then (match foldR [] l with | none => (([], 6) : List CmdD × Int) | some o => if 1024 < o.length then ([], 4) else (o, 0)) else ([], 1)) := ⟨by rw [ofS, hok]⟩
  clear h hl hok
  cases ok
  · go_enter Try.func40, Try.ntmps40
    go_wp2_with fail
    refine (HR.out w (Below.refl _ _)).mono ?_
    rintro e w1 ⟨rfl, HB1⟩
    go_wp2
    go_ret2
    exact ⟨_, by rw [HOf.out]; rfl, ⟨by rw [HOf.out]; exact ⟨Rep.Own.nil _ _ _ _ _, HB1.out⟩⟩⟩
  · go_enter Try.func40, Try.ntmps40
    go_wp2_with fail
    refine (HR.out w (Below.refl _ _)).mono ?_
    rintro e w1 ⟨rfl, HB1⟩
    go_wp2
    go_loopw [5, 6] (fun v s wr => ∃ i : Nat, i ≤ l.length ∧ s = .int .i64 (i : Int) ∧ ∃ o : List CmdD, Hold (foldR [] (l.take i) = some o) ∧ Hold (o.length ≤ i) ∧ Hold (CO w wr v o)) (fun _ s _ => l.length - (intOf s).toNat)
    case atStart => exact ⟨0, by omega, rfl, [], ⟨rfl⟩, ⟨Nat.le_refl _⟩, ⟨⟨Rep.Own.nil _ _ _ _ _, HB1.out⟩⟩⟩
    case round =>
      obtain ⟨i, hi, rfl, o, HF, Ho, HO⟩ := hrel
      by_cases hlt : i < l.length
      · have l1 : (i : Int) < (l.length : Int) := by omega
        obtain ⟨ad, p, rfl, hp, _, ⟨c0, c1, c2, c3, c4, c5, c6, hw⟩⟩ := row_cmd (H.out.below HO.out.bel) i hlt
        obtain ⟨y, hy⟩ : ∃ x, l[i] = x := ⟨_, rfl⟩
        rw [hy] at c0 c1 c2 c3 c4 c5 c6 hw
        have HT : Hold (l.take (i + 1) = l.take i ++ [y]) := ⟨by rw [List.take_succ_eq_append_getElem hlt, hy]⟩
        have HD : Hold (l = l.take i ++ y :: l.drop (i + 1)) := ⟨by rw [← hy, List.getElem_cons_drop, List.take_append_drop]⟩
        have HWy := Hold.mk hw
        clear hy hw
        obtain ⟨B, d, rfl, _, _⟩ := HO.out.form
        have hro := HO.out.own.row
        have HRo := Hold.mk hro
        obtain ⟨fi, hfi⟩ : ∃ n, firstOf (byId y.id) o = n := ⟨_, rfl⟩
        have HFi := Hold.mk hfi
        have HPut : Hold (∀ W, Below wr.heap.size wr W → Calls Try.prog 93 #[.slice B o.length d, y.v] W fun e w' => ∃ v, e = .returned v ∧ Hold (CO W w' v (putL o y))) := ⟨fun W hb => put_calls B d _ o y _ W rfl (HRo.out.below hb) HWy.out (by have := Ho.out; have := HL.out; omega)⟩
        rcases first_cases (byId y.id) o with ⟨e1, e2⟩ | ⟨k, hk, e1, e2, e3⟩
        · have hfe : fi = -1 := hfi.symm.trans e1
          subst hfe
          have HB : Hold (badL o y = false) := ⟨by rw [badL, findS_none e2]; rfl⟩
          have HN : Hold (foldR [] (l.take (i + 1)) = some (putL o y)) := ⟨by rw [HT.out]; exact foldR_snoc HF.out HB.out⟩
          clear hfi e1 e2 hro
          go_wp2_with fail
          refine (refFind_calls B d _ o y.id _ _ rfl HRo.out).mono ?_
          rw [HFi.out]
          rintro e w1 ⟨rfl, rfl⟩
          go_wp2
          go_quiet (fail)
          have hbq := below_drewN wr nq
          obtain ⟨w2, hw2⟩ : ∃ w2, wr.drewN nq = w2 := ⟨_, rfl⟩
          rw [hw2] at hbq
          rw [hw2]
          have HBq := Hold.mk hbq
          have HO2 := Hold.mk (HO.out.below hbq)
          obtain ⟨ad', p', e, hp', _, ⟨d0, d1, d2, d3, d4, d5, d6, _⟩⟩ := row_cmd (H.out.below HO2.out.bel) i hlt
          cases e
          obtain rfl : p = p' := hp.symm.trans hp'
          have ey : l[i] = y := by
            have h1 := HT.out
            rw [List.take_succ_eq_append_getElem hlt] at h1
            exact List.singleton_inj.1 (List.append_cancel_left h1)
          rw [ey] at d0 d1 d2 d3 d4 d5 d6
          clear hp' hw2 hbq ey c0 c1 c2 c3 c4 c5 c6
          go_wp2_with (go_at_call 93; refine (HPut.out _ HBq.out).mono ?_; rintro e w3 ⟨v3, rfl, HG⟩)
          exact ⟨⟨i + 1, by omega, by go_num, _, HN, ⟨Nat.le_trans (put_length _ _) (by have := Ho.out; omega)⟩, ⟨HG.out.lift HO2.out.bel⟩⟩, by simp [intOf]; omega⟩
        · have hfe : fi = (k : Int) := hfi.symm.trans e1
          subst hfe
          have k1 : (k : Int) < (o.length : Int) := by omega
          obtain ⟨z, hz⟩ : ∃ z, o[k] = z := ⟨_, rfl⟩
          have hro' := hro
          obtain ⟨bd, q, rfl, hq, _, ⟨d0, d1, d2, d3, d4, d5, d6, _⟩⟩ := row_cmd hro' k hk
          rw [hz] at d0 d1 d2 d3 d4 d5 d6
          have HFS : Hold (findS o y.id = (z, true)) := ⟨by rw [findS_at hk e2 e3, hz]⟩
          clear hfi e1 e2 e3 hro hro' hz
          by_cases hzy : z = y
          · have HB : Hold (badL o y = false) := ⟨by rw [badL, HFS.out]; simp [hzy]⟩
            have HN : Hold (foldR [] (l.take (i + 1)) = some (putL o y)) := ⟨by rw [HT.out]; exact foldR_snoc HF.out HB.out⟩
            clear HFS HB
            subst hzy
            go_wp2_with fail
            refine (refFind_calls _ d _ o z.id _ _ rfl HRo.out).mono ?_
            rw [HFi.out]
            rintro e w1 ⟨rfl, rfl⟩
            go_wp2
            go_quiet (fail)
            have hbq := below_drewN wr nq
            obtain ⟨w2, hw2⟩ : ∃ w2, wr.drewN nq = w2 := ⟨_, rfl⟩
            rw [hw2] at hbq
            rw [hw2]
            have HBq := Hold.mk hbq
            have HO2 := Hold.mk (HO.out.below hbq)
            obtain ⟨ad', p', e, hp', _, ⟨g0, g1, g2, g3, g4, g5, g6, _⟩⟩ := row_cmd (H.out.below HO2.out.bel) i hlt
            cases e
            obtain rfl : p = p' := hp.symm.trans hp'
            have ey : l[i] = z := by
              have h1 := HT.out
              rw [List.take_succ_eq_append_getElem hlt] at h1
              exact List.singleton_inj.1 (List.append_cancel_left h1)
            rw [ey] at g0 g1 g2 g3 g4 g5 g6
            clear hp' hw2 hbq ey c0 c1 c2 c3 c4 c5 c6 d0 d1 d2 d3 d4 d5 d6
            go_wp2_with (go_at_call 93; refine (HPut.out _ HBq.out).mono ?_; rintro e w3 ⟨v3, rfl, HG⟩)
            exact ⟨⟨i + 1, by omega, by go_num, _, HN, ⟨Nat.le_trans (put_length _ _) (by have := Ho.out; omega)⟩, ⟨HG.out.lift HO2.out.bel⟩⟩, by simp [intOf]; omega⟩
          · have HB : Hold (foldR [] l = none) := ⟨by rw [HD.out]; exact foldR_bad HF.out (by rw [badL, HFS.out]; simp [hzy])⟩
            have HEnd : Hold (ofS l = ([], 6)) := ⟨by rw [HOf.out, if_pos (by trivial), HB.out]⟩
            have hfst := Rd.CmdD.first hzy
            clear HFS HB hzy HPut
            rcases hfst with b0 | ⟨b0, b1⟩ | ⟨b0, b1, b2⟩ | ⟨b0, b1, b2, b3⟩ | ⟨b0, b1, b2, b3, b4⟩ | ⟨b0, b1, b2, b3, b4, b5⟩ | ⟨b0, b1, b2, b3, b4, b5, b6⟩
            all_goals
              go_wp2_with fail
              refine (refFind_calls _ d _ o y.id _ _ rfl HRo.out).mono ?_
              rw [HFi.out]
              rintro e w1 ⟨rfl, rfl⟩
              go_wp2
              go_quiet (fail)
              go_wp2
              go_ret2
              exact ⟨_, by rw [HEnd.out]; rfl, ⟨by rw [HEnd.out]; exact ⟨Rep.Own.nil _ _ _ _ _, (HO.out.drewN _).bel⟩⟩⟩
      · obtain rfl : i = l.length := by omega
        rw [List.take_length] at HF
        obtain ⟨B, d, rfl, _, _⟩ := HO.out.form
        by_cases hbig : 1024 < o.length
        · have t1 : decide ((1024 : Int) < (o.length : Int)) = true := decide_eq_true (by omega)
          have t1' : (1024 : Int) < (o.length : Int) := by omega
          have HEnd : Hold (ofS l = ([], 4)) := ⟨by rw [HOf.out, if_pos (by trivial), HF.out]; exact if_pos hbig⟩
          clear hbig
          go_wp2
          go_ret2
          exact ⟨_, by rw [HEnd.out]; rfl, ⟨by rw [HEnd.out]; exact ⟨Rep.Own.nil _ _ _ _ _, HO.out.bel⟩⟩⟩
        · have t1 : decide ((1024 : Int) < (o.length : Int)) = false := decide_eq_false (by omega)
          have t1' : ¬ (1024 : Int) < (o.length : Int) := by omega
          have HEnd : Hold (ofS l = (o, 0)) := ⟨by rw [HOf.out, if_pos (by trivial), HF.out]; exact if_neg hbig⟩
          clear hbig
          go_wp2
          go_ret2
          exact ⟨_, by rw [HEnd.out]; rfl, ⟨by rw [HEnd.out]; exact HO.out⟩⟩
end Go.Proofs.Ytebhclgnpnlekaa.Pr
