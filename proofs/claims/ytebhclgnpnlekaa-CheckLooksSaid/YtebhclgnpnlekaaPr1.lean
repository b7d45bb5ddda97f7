/- Names among commands: package preds' Find, Ids, Minus, and the document's Find, Ids, Minus, by their walks. No condition. -/
import Derived.Test.YtebhclgnpnlekaaPreds
import Derived.Test.YtebhclgnpnlekaaRdCmds
import Derived.Test.YtebhclgnpnlekaaAgg2
import Derived.Deep.Cut
namespace Go.Proofs.Ytebhclgnpnlekaa.Pr
open Go.RowKit Go.Proofs.Ytebhclgnpnlekaa.B Go.Proofs.Ytebhclgnpnlekaa.Cmd Go.Proofs.Ytebhclgnpnlekaa.Agg
open Go.Proofs.Ytebhclgnpnlekaa.Rd (zeroCmd wp_pushCmd)

abbrev arr (c : CmdD) : Array Value := #[.int .i64 c.id, .int .i64 c.kind, .int .i64 c.sym, .int .i64 c.tgt, .int .i64 c.side, .int .i64 c.price, .int .i64 c.qty]
theorem arr_size (c : CmdD) : (arr c).size = 7 := rfl
theorem arr_one (c : CmdD) : (arr c).all (·.oneCell') = true := Array.all_eq_true_iff_forall_mem.2 fun u hu => by
  simp only [List.mem_toArray, List.mem_cons, List.not_mem_nil, or_false] at hu
  rcases hu with rfl | rfl | rfl | rfl | rfl | rfl | rfl <;> rfl
theorem isC : IsStruct Try.prog 45 7 := ⟨by kernel_rfl, by kernel_rfl⟩
theorem zeroC : (Try.prog.info? 45).map (fun i => i.zero) = some (some (.agg (arr zeroCmd))) := by kernel_rfl
def byId (id : Int) : CmdD → Bool := fun c => c.id == id
/-- A name's command. -/
def findS (l : List CmdD) (id : Int) : CmdD × Bool := match l.find? (byId id) with | some c => (c, true) | none => (zeroCmd, false)
theorem findS_at {l : List CmdD} {id : Int} {i : Nat} (hi : i < l.length) (hA : ∀ x ∈ l.take i, byId id x = false) (h : byId id l[i] = true) : findS l id = (l[i], true) := by
  have e : l.find? (byId id) = some l[i] := List.find?_eq_some_iff_getElem.2 ⟨h, i, hi, rfl, fun j hj => by
    rw [hA _ (List.mem_take_iff_getElem.2 ⟨j, by omega, rfl⟩)]; rfl⟩
  rw [findS, e]
theorem findS_none {l : List CmdD} {id : Int} (hA : ∀ x ∈ l, byId id x = false) : findS l id = (zeroCmd, false) := by
  rw [findS, List.find?_eq_none.2 (fun x hx => by rw [hA x hx]; decide)]
theorem find1_calls (c : CmdD) (id : Int) (B : Nat) (w : World) (hb : B < w.heap.size) (hc : w.cell? ⟨B, 0, none⟩ = some (.int .i64 id)) (b : Bool) (h : byId id c = b) : Calls Try.prog 95 #[c.v, .pointer (some ⟨B, 0, none⟩)] w fun e w' => e = .returned (.bool b) ∧ Below w.heap.size w w' := by
  have HB := Hold.mk h
  have hc2 : ∀ o, (w.alloc o).cell? ⟨B, 0, none⟩ = some (.int .i64 id) := fun o => (World.cell?_of_block (Below.heap_alloc w o B hb)).trans hc
  clear h
  go_enter Try.func95, Try.ntmps95
  go_wp2
  go_ret
  exact ⟨by rw [← HB.out]; rfl, (Below.refl _ _).alloc (Nat.le_refl _) _⟩
set_option maxHeartbeats 2000000 in
theorem index_id (A : Option Addr) (c : Nat) (l : List CmdD) (id : Int) (B : Nat) (I : Nat → Prop) (w : World) (hb : B < w.heap.size) (hc : w.cell? ⟨B, 0, none⟩ = some (.int .i64 id)) (h : Rep.Row cmdRep I w A l) :
    Calls Try.prog 94 #[.slice A l.length c, .func (.func 95) #[] #[.pointer (some ⟨B, 0, none⟩)]] w fun e w' => e = .returned (.int .i64 (firstOf (byId id) l)) ∧ Hold (Below w.heap.size w w') := by
  have H := Hold.mk h
  have hm := h.len_le
  have HC := Hold.mk hc
  have Hb := Hold.mk hb
  clear h hc
  go_enter Try.func94, Try.ntmps94
  go_wp2
  go_loopw [8] (fun s wr => ∃ i : Nat, i ≤ l.length ∧ s = .int .i64 (i : Int) ∧ Hold (∀ x ∈ l.take i, byId id x = false) ∧ Hold (Below w.heap.size w wr)) (fun s _ => l.length - (intOf s).toNat)
  case atStart => exact ⟨0, by omega, rfl, ⟨by simp⟩, ⟨Below.refl _ _⟩⟩
  case round =>
    obtain ⟨i, hi, rfl, HA, HB⟩ := hrel
    by_cases hlt : i < l.length
    · have l1 : (i : Int) < (l.length : Int) := by omega
      obtain ⟨ad, p, rfl, hp, _, ⟨c0, c1, c2, c3, c4, c5, c6, hw⟩⟩ := row_cmd (H.out.below HB.out) i hlt
      obtain ⟨x, hx⟩ : ∃ x, l[i] = x := ⟨_, rfl⟩
      rw [hx] at c0 c1 c2 c3 c4 c5 c6 hw
      have HX := Hold.mk hx
      clear hx hw
      cases hb : byId id x
      · have HBx := Hold.mk hb
        clear hb
        go_wp2_with fail
        refine (find1_calls x id B _ (Nat.lt_of_lt_of_le Hb.out HB.out.size) ((World.cell?_of_block (HB.out.block B Hb.out)).trans HC.out) false HBx.out).mono ?_
        rintro e w1 ⟨rfl, hb1⟩
        have HB1 := Hold.mk (HB.out.trans (hb1.mono HB.out.size))
        have HA1 : Hold (∀ x ∈ l.take (i + 1), byId id x = false) := ⟨mem_take_succ hlt HA.out (by rw [HX.out, HBx.out])⟩
        clear hb1
        go_wp2
        exact ⟨⟨i + 1, by omega, by go_num, HA1, HB1⟩, by simp [intOf]; omega⟩
      · have HBx := Hold.mk hb
        clear hb
        go_wp2_with fail
        refine (find1_calls x id B _ (Nat.lt_of_lt_of_le Hb.out HB.out.size) ((World.cell?_of_block (HB.out.block B Hb.out)).trans HC.out) true HBx.out).mono ?_
        rintro e w1 ⟨rfl, hb1⟩
        have HB1 := Hold.mk (HB.out.trans (hb1.mono HB.out.size))
        clear hb1
        go_wp2
        go_ret
        exact ⟨by rw [firstOf_at hlt HA.out (by rw [HX.out, HBx.out])]; rfl, HB1⟩
    · obtain rfl : i = l.length := by omega
      have HN : Hold (firstOf (byId id) l = -1) := ⟨firstOf_none (by have := HA.out; rw [List.take_length] at this; exact this)⟩
      go_wp2
      go_ret
      exact ⟨by rw [HN.out]; rfl, HB⟩
/-- A name's place, or none. -/
theorem first_cases (p : CmdD → Bool) (l : List CmdD) : (firstOf p l = -1 ∧ ∀ x ∈ l, p x = false) ∨ ∃ i : Nat, ∃ hi : i < l.length, firstOf p l = (i : Int) ∧ (∀ x ∈ l.take i, p x = false) ∧ p l[i] = true := by
  induction l with
  | nil => exact .inl ⟨rfl, fun x hx => by cases hx⟩
  | cons a l ih =>
    by_cases ha : p a = true
    · refine .inr ⟨0, by simp, firstOf_at (by simp) (by simp) (by simpa using ha), by simp, by simpa using ha⟩
    · have ha' : p a = false := Bool.eq_false_iff.2 ha
      rcases ih with ⟨_, h⟩ | ⟨i, hi, _, h1, h2⟩
      · refine .inl ⟨firstOf_none fun x hx => ?_, fun x hx => ?_⟩ <;>
        · rcases List.mem_cons.1 hx with rfl | hx
          · exact ha'
          · exact h x hx
      · have hA : ∀ x ∈ (a :: l).take (i + 1), p x = false := fun x hx => by
          rw [List.take_succ_cons] at hx
          rcases List.mem_cons.1 hx with rfl | hx
          · exact ha'
          · exact h1 x hx
        exact .inr ⟨i + 1, by simpa using hi, firstOf_at (by simpa using hi) hA (by simpa using h2), hA, by simpa using h2⟩
set_option maxHeartbeats 4000000 in
set_option maxRecDepth 100000 in
/-- Package preds' Find. -/
theorem find_calls (A : Option Addr) (c : Nat) (l : List CmdD) (id : Int) (I : Nat → Prop) (w : World) (h : Rep.Row cmdRep I w A l) :
    Calls Try.prog 42 #[.slice A l.length c, .int .i64 id] w fun e w' => e = .returned (.tuple #[(findS l id).1.v, .bool (findS l id).2]) ∧ Hold (Below w.heap.size w w') := by
  have H := Hold.mk h
  have hm := h.len_le
  clear h
  obtain ⟨g, hg⟩ : ∃ g, w.heap.size = g := ⟨_, rfl⟩
  obtain ⟨W, hW⟩ : ∃ W, (w.alloc (.cells #[.int .i64 id] 3)).alloc (.cells #[.int .i64 0, .int .i64 0, .int .i64 0, .int .i64 0, .int .i64 0, .int .i64 0, .int .i64 0] 45) = W := ⟨_, rfl⟩
  have hB : Bs w W [(g, 3, #[.int .i64 id]), (g + 1, 45, arr zeroCmd)] := by
    have h1 := ((Bs.nil w).alloc #[.int .i64 id] 3).alloc (arr zeroCmd) 45
    have h2 : (w.alloc (.cells #[.int .i64 id] 3)).alloc (.cells (arr zeroCmd) 45) = W := hW
    rw [h2] at h1
    simpa [hg] using h1
  have hci := hB.cell 0 rfl 0
  have hlt := hB.lt 0 rfl
  have HI := Hold.mk (index_id A c l id g I W hlt hci (H.out.below hB.below))
  rcases first_cases (byId id) l with ⟨e1, e2⟩ | ⟨i, hi, e1, e2, e3⟩
  · have HF := Hold.mk (findS_none e2)
    rw [e1] at HI
    clear e1 e2 hci hlt
    go_enter Try.func42, Try.ntmps42
    go_wp2_with (first
      | (go_at_call 94; refine HI.out.mono ?_; rintro e w1 ⟨rfl, HB1⟩; replace hB := hB.step HB1.out)
      | (with_reducible refine gateS 45 ?_; refine wpl_store (C' := arr zeroCmd) isC rfl rfl hB 1 rfl (arr_size _) (arr_size _) (arr_one _) rfl ?_; intro W2 hB; simp only [List.set] at hB))
    exact bodyPost_ret (res_two rfl rfl rfl isC hB 1 rfl (arr_size _)) rfl ⟨by rw [HF.out]; rfl, ⟨hB.below⟩⟩
  · have HF := Hold.mk (findS_at hi e2 e3)
    rw [e1] at HI
    have l1 : (i : Int) < (l.length : Int) := by omega
    obtain ⟨x, hx⟩ : ∃ x, l[i] = x := ⟨_, rfl⟩
    rw [hx] at HF
    have HX := Hold.mk hx
    clear e1 e2 e3 hci hlt hx
    have li0 : decide ((i : Int) < 0) = false := decide_eq_false (by omega)
    have li1 : ¬ ((i : Int) < 0) := by omega
    go_enter Try.func42, Try.ntmps42
    go_wp2_with (first
      | (go_at_call 94; refine HI.out.mono ?_; rintro e w1 ⟨rfl, HB1⟩; replace hB := hB.step HB1.out; obtain ⟨ad, p, rfl, hp, _, ⟨c0, c1, c2, c3, c4, c5, c6, hw⟩⟩ := row_cmd (H.out.below hB.below) i hi; rw [HX.out] at c0 c1 c2 c3 c4 c5 c6 hw; clear hw)
      | (with_reducible refine gateS 45 ?_; refine wpl_store (C' := arr x) isC rfl rfl hB 1 rfl (arr_size _) (arr_size _) (arr_one _) rfl ?_; intro W2 hB; simp only [List.set] at hB))
    exact bodyPost_ret (res_two rfl rfl rfl isC hB 1 rfl (arr_size _)) rfl ⟨by rw [HF.out]; rfl, ⟨hB.below⟩⟩

/-- A row of commands of the call's own. -/
structure CO (w0 w : World) (v : Value) (xs : List CmdD) : Prop where
  own : Rep.Own cmdRep 45 w0.heap.size nob w v xs
  bel : Below w0.heap.size w0 w
theorem CO.nil (w0 : World) : CO w0 w0 (.slice none 0 0) [] := ⟨Rep.Own.nil _ _ _ _ _, Below.refl _ _⟩
theorem CO.below {w0 w w' : World} {v : Value} {xs : List CmdD} (h : CO w0 w v xs) (hb : Below w.heap.size w w') : CO w0 w' v xs := ⟨h.own.below hb, h.bel.trans (hb.mono h.bel.size)⟩
theorem CO.more {w0 w w1 : World} {v : Value} {A1 : Option Addr} {c1 : Nat} {xs zs : List CmdD} (h : CO w0 w v xs) (G : Rep.Grown cmdRep 45 w0.heap.size nob w v w1 A1 c1 zs) : CO w0 w1 (.slice A1 zs.length c1) zs :=
  ⟨G.own, h.bel.trans (G.below (fun k hk => (h.own.block_lt k hk).1) h.bel.size)⟩
theorem CO.form {w0 w : World} {v : Value} {xs : List CmdD} (h : CO w0 w v xs) : ∃ A c, v = .slice A xs.length c ∧ xs.length ≤ c ∧ (A = none → c = 0) := h.own.len_form
/-- One more command. -/
theorem wp_pushC {ops : Array Oper} {rest : List Oper} {o : Oper} {a : Act} {Q : Exit → Act → World → Prop} (hgd : o.guard = none) (s x : Operand)
    (ho : o.op = .call { callee := .builtin .append, args := #[s, x], argTypes := #[23, 23] })
    {w w0 : World} (v : Value) (xs : List CmdD) (y : CmdD) (hs : a.eval s = v) (hx : a.eval x = .slice (some ⟨w0.heap.size, 0, none⟩) 1 1)
    (HO : CO w w0 v xs) (hw : y.wf) (hl : xs.length ≤ 1000000)
    (h : ∀ A1 c1 w1, Hold (CO w w1 (.slice A1 (xs.length + 1) c1) (xs ++ [y])) → wpList Try.prog ops Q rest (a.put o.dst (.slice A1 (xs.length + 1) c1)) w1) :
    wpList Try.prog ops Q (o :: rest) a (w0.alloc (.cells #[.int .i64 y.id, .int .i64 y.kind, .int .i64 y.sym, .int .i64 y.tgt, .int .i64 y.side, .int .i64 y.price, .int .i64 y.qty] 45)) :=
  Rep.wp_push cmdRep hgd s x 23 45 (.agg #[.int .i64 0, .int .i64 0, .int .i64 0, .int .i64 0, .int .i64 0, .int .i64 0, .int .i64 0]) 56 ho Try.underlying23 info_cmd Rd.cmd_zs Rd.cmd_sz0 (by decide) w.heap.size nob nob v xs y [.int .i64 y.id, .int .i64 y.kind, .int .i64 y.sym, .int .i64 y.tgt, .int .i64 y.side, .int .i64 y.price, .int .i64 y.qty] hs hx HO.own ⟨rfl, hw⟩ (fun _ h _ => h.elim) HO.bel.size (by omega)
    (fun A1 c1 w1 G => h A1 c1 w1 ⟨by have := HO.more G.out; rwa [List.length_append, List.length_singleton] at this⟩)
def minusS (xs ys : List CmdD) : List CmdD := xs.filter fun c => !(findS ys c.id).2
theorem minus_snoc (xs : List CmdD) (x : CmdD) (ys : List CmdD) : minusS (xs ++ [x]) ys = minusS xs ys ++ (if (findS ys x.id).2 = true then [] else [x]) := by
  rw [minusS, List.filter_append]
  congr 1
  cases h : (findS ys x.id).2 <;> simp [h]
theorem minus_le (xs ys : List CmdD) : (minusS xs ys).length ≤ xs.length := List.length_filter_le _ _
theorem first_lt (l : List CmdD) (id : Int) : decide (firstOf (byId id) l < 0) = !(findS l id).2 := by
  rcases first_cases (byId id) l with ⟨e1, e2⟩ | ⟨i, hi, e1, e2, e3⟩
  · rw [e1, findS_none e2]; rfl
  · rw [e1, findS_at hi e2 e3]; exact decide_eq_false (by omega)
set_option maxHeartbeats 4000000 in
set_option maxRecDepth 100000 in
/-- The document's Find. -/
theorem refFind_calls (A : Option Addr) (c n : Nat) (l : List CmdD) (id : Int) (I : Nat → Prop) (w : World) (hn : n = l.length) (h : Rep.Row cmdRep I w A l) :
    Calls Try.prog 43 #[.slice A n c, .int .i64 id] w fun e w' => e = .returned (.int .i64 (firstOf (byId id) l)) ∧ w = w' := by
  subst hn
  have H := Hold.mk h
  have hm := h.len_le
  clear h
  go_enter Try.func43, Try.ntmps43
  go_wp2
  go_loop [5] (fun s => ∃ i : Nat, i ≤ l.length ∧ s = .int .i64 (i : Int) ∧ Hold (∀ x ∈ l.take i, byId id x = false)) (fun s => l.length - (intOf s).toNat)
  case atStart => exact ⟨0, by omega, rfl, ⟨by simp⟩⟩
  case round =>
    obtain ⟨i, hi, rfl, HA⟩ := hrel
    by_cases hlt : i < l.length
    · have l1 : (i : Int) < (l.length : Int) := by omega
      obtain ⟨ad, p, rfl, hp, _, ⟨c0, c1, c2, c3, c4, c5, c6, hw⟩⟩ := row_cmd H.out i hlt
      obtain ⟨x, hx⟩ : ∃ x, l[i] = x := ⟨_, rfl⟩
      rw [hx] at c0 c1 c2 c3 c4 c5 c6 hw
      have HX := Hold.mk hx
      clear hx hw
      cases hb : byId id x
      · have HBx := Hold.mk hb
        have hbe : (x.id == id) = false := hb
        have HA1 : Hold (∀ x ∈ l.take (i + 1), byId id x = false) := ⟨mem_take_succ hlt HA.out (by rw [HX.out, HBx.out])⟩
        clear hb
        go_wp2
        exact ⟨⟨i + 1, by omega, by go_num, HA1⟩, by simp [intOf]; omega⟩
      · have HBx := Hold.mk hb
        have hbe : (x.id == id) = true := hb
        clear hb
        go_wp2
        go_ret
        exact ⟨by rw [firstOf_at hlt HA.out (by rw [HX.out, HBx.out])]; rfl, rfl⟩
    · obtain rfl : i = l.length := by omega
      have HN : Hold (firstOf (byId id) l = -1) := ⟨firstOf_none (by have := HA.out; rw [List.take_length] at this; exact this)⟩
      go_wp2
      go_ret
      exact ⟨by rw [HN.out]; rfl, rfl⟩
set_option maxHeartbeats 4000000 in
set_option maxRecDepth 100000 in
/-- The document's Minus. -/
theorem refMinus_calls (A B : Option Addr) (c c' : Nat) (xs ys : List CmdD) (I J : Nat → Prop) (w : World) (h : Rep.Row cmdRep I w A xs) (h' : Rep.Row cmdRep J w B ys) (hl : xs.length ≤ 1000000) :
    Calls Try.prog 44 #[.slice A xs.length c, .slice B ys.length c'] w fun e w' => ∃ v, e = .returned v ∧ Hold (CO w w' v (minusS xs ys)) := by
  have HX := Hold.mk h
  have HY := Hold.mk h'
  have HL := Hold.mk hl
  have hm := h.len_le
  clear h h' hl
  go_enter Try.func44, Try.ntmps44
  go_wp2
  go_loopw [5, 6] (fun v s wr => ∃ i : Nat, i ≤ xs.length ∧ s = .int .i64 (i : Int) ∧ Hold (CO w wr v (minusS (xs.take i) ys))) (fun _ s _ => xs.length - (intOf s).toNat)
  case atStart => exact ⟨0, by omega, rfl, ⟨CO.nil w⟩⟩
  case round =>
    obtain ⟨i, hi, rfl, HO⟩ := hrel
    by_cases hlt : i < xs.length
    · have l1 : (i : Int) < (xs.length : Int) := by omega
      obtain ⟨ad, p, rfl, hp, _, ⟨c0, c1, c2, c3, c4, c5, c6, hw⟩⟩ := row_cmd (HX.out.below HO.out.bel) i hlt
      obtain ⟨x, hx⟩ : ∃ x, xs[i] = x := ⟨_, rfl⟩
      rw [hx] at c0 c1 c2 c3 c4 c5 c6 hw
      have HS : Hold (minusS (xs.take (i + 1)) ys = minusS (xs.take i) ys ++ (if (findS ys x.id).2 = true then [] else [x])) := ⟨by rw [List.take_succ_eq_append_getElem hlt, hx, minus_snoc]⟩
      have HW := Hold.mk hw
      have HLn : Hold ((minusS (xs.take i) ys).length ≤ 1000000) := ⟨by have := minus_le (xs.take i) ys; rw [List.length_take] at this; have := HL.out; omega⟩
      clear hx hw
      obtain ⟨P, hP⟩ : ∃ P, minusS (xs.take i) ys = P := ⟨_, rfl⟩
      rw [hP] at HO HS HLn
      have hq := first_lt ys x.id
      obtain ⟨fi, hfi⟩ : ∃ n, firstOf (byId x.id) ys = n := ⟨_, rfl⟩
      rw [hfi] at hq
      have HFi := Hold.mk hfi
      clear hP hfi
      cases hb : (findS ys x.id).2
      · rw [hb] at hq
        have HSx : Hold (minusS (xs.take (i + 1)) ys = P ++ [x]) := ⟨by rw [HS.out, hb]; rfl⟩
        have hq' : decide (fi < 0) = true := hq
        clear hb hq
        go_wp2_with fail
        refine (refFind_calls B c' _ ys x.id J _ rfl (HY.out.below HO.out.bel)).mono ?_
        rw [HFi.out]
        rintro e w1 ⟨rfl, rfl⟩
        go_wp2_with (at_builtin; refine wp_pushC rfl (.tmp 21) (.tmp 26) rfl u5 P x rfl rfl HO.out HW.out HLn.out ?_)
        intro A1 c1 w1 HG
        have HG' : Hold (CO w w1 (.slice A1 (P.length + 1) c1) (minusS (xs.take (i + 1)) ys)) := ⟨by rw [HSx.out]; exact HG.out⟩
        go_wp2
        exact ⟨⟨i + 1, by omega, by go_num, HG'⟩, by simp [intOf]; omega⟩
      · rw [hb] at hq
        have HSx : Hold (minusS (xs.take (i + 1)) ys = P) := ⟨by rw [HS.out, hb]; simp⟩
        have hq' : decide (fi < 0) = false := hq
        clear hb hq
        go_wp2_with fail
        refine (refFind_calls B c' _ ys x.id J _ rfl (HY.out.below HO.out.bel)).mono ?_
        rw [HFi.out]
        rintro e w1 ⟨rfl, rfl⟩
        go_wp2
        exact ⟨⟨i + 1, by omega, by go_num, ⟨by rw [HSx.out]; exact HO.out⟩⟩, by simp [intOf]; omega⟩
    · obtain rfl : i = xs.length := by omega
      go_wp2
      go_ret
      exact ⟨_, rfl, ⟨by have := HO.out; rwa [List.take_length] at this⟩⟩
set_option maxHeartbeats 4000000 in
set_option maxRecDepth 100000 in
/-- Package preds' Minus. -/
theorem minus_calls (A B : Option Addr) (c c' : Nat) (xs ys : List CmdD) (I J : Nat → Prop) (w : World) (h : Rep.Row cmdRep I w A xs) (h' : Rep.Row cmdRep J w B ys) (hl : xs.length ≤ 1000000) :
    Calls Try.prog 37 #[.slice A xs.length c, .slice B ys.length c'] w fun e w' => ∃ v, e = .returned v ∧ Hold (CO w w' v (minusS xs ys)) := by
  have HX := Hold.mk h
  have HY := Hold.mk h'
  have HL := Hold.mk hl
  have hm := h.len_le
  clear h h' hl
  go_enter Try.func37, Try.ntmps37
  go_wp2
  go_loopw [5, 13] (fun v s wr => ∃ i : Nat, i ≤ xs.length ∧ s = .int .i64 (i : Int) ∧ Hold (CO w wr v (minusS (xs.take i) ys))) (fun _ s _ => xs.length - (intOf s).toNat)
  case atStart => exact ⟨0, by omega, rfl, ⟨⟨Rep.Own.lit _ _ _ _ _ (Nat.le_refl _), (Below.refl _ _).alloc (Nat.le_refl _) _⟩⟩⟩
  case round =>
    obtain ⟨i, hi, rfl, HO⟩ := hrel
    by_cases hlt : i < xs.length
    · have l1 : (i : Int) < (xs.length : Int) := by omega
      obtain ⟨ad, p, rfl, hp, _, ⟨c0, c1, c2, c3, c4, c5, c6, hw⟩⟩ := row_cmd (HX.out.below HO.out.bel) i hlt
      obtain ⟨x, hx⟩ : ∃ x, xs[i] = x := ⟨_, rfl⟩
      rw [hx] at c0 c1 c2 c3 c4 c5 c6 hw
      have HS : Hold (minusS (xs.take (i + 1)) ys = minusS (xs.take i) ys ++ (if (findS ys x.id).2 = true then [] else [x])) := ⟨by rw [List.take_succ_eq_append_getElem hlt, hx, minus_snoc]⟩
      have HW := Hold.mk hw
      have HLn : Hold ((minusS (xs.take i) ys).length ≤ 1000000) := ⟨by have := minus_le (xs.take i) ys; rw [List.length_take] at this; have := HL.out; omega⟩
      clear hx hw
      obtain ⟨P, hP⟩ : ∃ P, minusS (xs.take i) ys = P := ⟨_, rfl⟩
      rw [hP] at HO HS HLn
      have HFd : Hold (∀ W, Below wr.heap.size wr W → Calls Try.prog 42 #[.slice B ys.length c', .int .i64 x.id] W fun e w' => e = .returned (.tuple #[(findS ys x.id).1.v, .bool (findS ys x.id).2]) ∧ Hold (Below W.heap.size W w')) := ⟨fun W hb => find_calls B c' ys x.id J W (HY.out.below (HO.out.bel.trans (hb.mono HO.out.bel.size)))⟩
      obtain ⟨r, has, hr⟩ : ∃ r b, findS ys x.id = (r, b) := ⟨_, _, rfl⟩
      rw [hr] at HFd HS
      dsimp only at HFd HS
      have hB := Bs.nil wr
      clear hP hr
      cases has
      · have HSx : Hold (minusS (xs.take (i + 1)) ys = P ++ [x]) := ⟨by rw [HS.out]; rfl⟩
        clear HS
        go_upto_region 5 with (first
          | (with_reducible refine gateA 45 ?_; refine wpl_alloc zeroC hB rfl ?_; intro W2 g2 hB; simp only [List.nil_append] at hB)
          | (with_reducible refine gateS 45 ?_; refine wpl_store (C' := arr x) isC rfl rfl hB 0 rfl (arr_size _) (arr_size _) (arr_one _) rfl ?_; intro W3 hB; simp only [List.set] at hB; have hc := hB.cell 0 rfl 0))
        go_upto_region 6 with (first
          | (go_at_call 42; refine (HFd.out _ hB.below).mono ?_; rintro e w1 ⟨rfl, HB1⟩; replace hB := hB.step HB1.out)
          | (with_reducible refine gateA 45 ?_; refine wpl_alloc zeroC hB rfl ?_; intro W4 g4 hB; simp only [List.cons_append, List.nil_append] at hB)
          | (with_reducible refine gateS 45 ?_; refine wpl_store (C' := arr r) isC rfl rfl hB 1 rfl (arr_size _) (arr_size _) (arr_one _) rfl ?_; intro W5 hB; simp only [List.set] at hB))
        have HO5 := Hold.mk (HO.out.below hB.below)
        go_wp2_with (first
          | (with_reducible refine gateL 45 ?_; refine wpl_load isC rfl hB 0 rfl (arr_size _) rfl ?_)
          | (at_builtin; refine wp_pushC rfl (.tmp 26) (.tmp 28) rfl u5 P x rfl rfl HO5.out HW.out HLn.out ?_; intro A1 c1 w1 HG))
        exact ⟨⟨i + 1, by omega, by go_num, ⟨by rw [HSx.out]; exact HG.out⟩⟩, by simp [intOf]; omega⟩
      · have HSx : Hold (minusS (xs.take (i + 1)) ys = P) := ⟨by rw [HS.out]; simp⟩
        clear HS
        go_upto_region 5 with (first
          | (with_reducible refine gateA 45 ?_; refine wpl_alloc zeroC hB rfl ?_; intro W2 g2 hB; simp only [List.nil_append] at hB)
          | (with_reducible refine gateS 45 ?_; refine wpl_store (C' := arr x) isC rfl rfl hB 0 rfl (arr_size _) (arr_size _) (arr_one _) rfl ?_; intro W3 hB; simp only [List.set] at hB; have hc := hB.cell 0 rfl 0))
        go_upto_region 6 with (first
          | (go_at_call 42; refine (HFd.out _ hB.below).mono ?_; rintro e w1 ⟨rfl, HB1⟩; replace hB := hB.step HB1.out)
          | (with_reducible refine gateA 45 ?_; refine wpl_alloc zeroC hB rfl ?_; intro W4 g4 hB; simp only [List.cons_append, List.nil_append] at hB)
          | (with_reducible refine gateS 45 ?_; refine wpl_store (C' := arr r) isC rfl rfl hB 1 rfl (arr_size _) (arr_size _) (arr_one _) rfl ?_; intro W5 hB; simp only [List.set] at hB))
        have HO5 := Hold.mk (HO.out.below hB.below)
        go_wp2
        exact ⟨⟨i + 1, by omega, by go_num, ⟨by rw [HSx.out]; exact HO5.out⟩⟩, by simp [intOf]; omega⟩
    · obtain rfl : i = xs.length := by omega
      go_wp2
      go_ret
      exact ⟨_, rfl, ⟨by have := HO.out; rwa [List.take_length] at this⟩⟩
end Go.Proofs.Ytebhclgnpnlekaa.Pr
