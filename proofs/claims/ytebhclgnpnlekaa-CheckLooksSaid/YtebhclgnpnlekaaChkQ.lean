/- Marks, as they lie there; a view's marks, by their walk. No condition. -/
import Derived.Test.YtebhclgnpnlekaaChkLaw
import Derived.Test.YtebhclgnpnlekaaOrdG
namespace Go.Proofs.Ytebhclgnpnlekaa.Ord
open Go.RowKit Go.Proofs.Ytebhclgnpnlekaa.B Go.Proofs.Ytebhclgnpnlekaa.Cmd Go.Proofs.Ytebhclgnpnlekaa.Agg Go.Proofs.Ytebhclgnpnlekaa.Ent
open Go.Proofs.Ytebhclgnpnlekaa.Pr (CO arr arr_size arr_one isC zeroC)
theorem gateM {P : Program} {ops : Array Oper} {rest : List Oper} {a : Act} {w : World} {Q : Exit → Act → World → Prop} {dst : Option Tmp} {ty : TypeId} {pos : String} {after : Array Edge} {m x y : Operand} (T : TypeId) (h : wpList P ops Q (⟨dst, .mapUpdate T m x y, ty, pos, after, none⟩ :: rest) a w) : wpList P ops Q (⟨dst, .mapUpdate T m x y, ty, pos, after, none⟩ :: rest) a w := h
theorem cell_heap {w : World} {b : Nat} {C : Array Value} {T : TypeId} (h : w.heap[b]? = some (.cells C T (0, 0))) (k : Nat) : w.cell? ⟨b, k, none⟩ = C[k]? := cell_of_row w b k C T (0, 0) h
theorem wpl_loadH {P : Program} {ops : Array Oper} {rest : List Oper} {a : Act} {w : World} {Q : Exit → Act → World → Prop} {dst : Option Tmp} {T T' ty : TypeId} {pos : String} {after : Array Edge} {gd : Option (Nat × Bool)} {x : Operand} {b n : Nat} {C : Array Value} (hT : IsStruct P T n) (hx : a.eval x = .pointer (some ⟨b, 0, none⟩)) (hb : w.heap[b]? = some (.cells C T' (0, 0))) (hs : C.size = n) (hw : Region.wanted ⟨dst, .load T x, ty, pos, after, gd⟩ (yielded ops a.tmps) = true)
    (h : wpList P ops Q rest (a.put dst (.agg C)) w) : wpList P ops Q (⟨dst, .load T x, ty, pos, after, gd⟩ :: rest) a w := by
  refine wpList_step fun K hK => ?_
  rw [if_pos hw]
  unfold Oper.wp execOp
  simp only [hx, Sem.run_bind, load_run hT hb hs, Result.andThen_ok, Sem.run_pure]
  exact hK _ _ h
def ca : CmdD := ⟨16, 1, 0, 17, 0, 0, 0⟩
def cb : CmdD := ⟨17, 1, 0, 16, 0, 0, 0⟩
theorem built_c1 (c : CmdD) : Try.prog.builtSlice 45 1 [(0, .agg (arr c))] = some (arr c) := by kernel_rfl
theorem built_e2 (a b : ER) : Try.prog.builtSlice 70 2 [(0, .agg a.cells), (1, .agg b.cells)] = some (a.cells ++ b.cells) := by kernel_rfl
theorem wf_ca : ca.wf := ⟨by decide, by decide, by decide, by decide, by decide, by decide, by decide⟩
theorem wf_cb : cb.wf := ⟨by decide, by decide, by decide, by decide, by decide, by decide, by decide⟩
section
variable {P : Program} {ops : Array Oper} {rest : List Oper} {a : Act} {w0 w : World} {Q : Exit → Act → World → Prop} {dst : Option Tmp} {ty : TypeId} {pos : String} {after : Array Edge} {l : List (Nat × TypeId × Array Value)}
/-- A literal of one struct, of two, in a block of its own. -/
theorem wpl_boxB {t e : TypeId} {x : Operand} {C : Array Value} (hu : P.underlying t = some (.slice e)) (hx : a.eval x = .agg C) (hf : P.builtSlice e 1 [(0, .agg C)] = some C) (hB : Bs w0 w l) (hw : Region.wanted ⟨dst, .buildSlice t 1 #[(0, x)], ty, pos, after, none⟩ (yielded ops a.tmps) = true)
    (h : ∀ w' g', Bs w0 w' (l ++ [(g', e, C)]) → wpList P ops Q rest (a.put dst (.slice (some ⟨g', 0, none⟩) 1 1)) w') : wpList P ops Q (⟨dst, .buildSlice t 1 #[(0, x)], ty, pos, after, none⟩ :: rest) a w :=
  wpl_box1 hu hx hf hw (h _ _ (hB.alloc C e))
theorem wpl_boxB2 {t e : TypeId} {x y : Operand} {C D E : Array Value} (hu : P.underlying t = some (.slice e)) (hx : a.eval x = .agg C) (hy : a.eval y = .agg D) (hf : P.builtSlice e 2 [(0, .agg C), (1, .agg D)] = some E) (hB : Bs w0 w l) (hw : Region.wanted ⟨dst, .buildSlice t 2 #[(0, x), (1, y)], ty, pos, after, none⟩ (yielded ops a.tmps) = true)
    (h : ∀ w' g', Bs w0 w' (l ++ [(g', e, E)]) → wpList P ops Q rest (a.put dst (.slice (some ⟨g', 0, none⟩) 2 2)) w') : wpList P ops Q (⟨dst, .buildSlice t 2 #[(0, x), (1, y)], ty, pos, after, none⟩ :: rest) a w :=
  Great.wpList_buildSliceTo rfl t e 2 #[(0, x), (1, y)] rfl w.heap.size rfl dst rfl hu E (by simpa [hx, hy] using hf) (h _ _ (hB.alloc E e))
end
/-- A row of one command, out of its block. -/
theorem row_c1 {w0 w : World} {l : List (Nat × TypeId × Array Value)} {b : Nat} {T : TypeId} {c : CmdD} (hB : Bs w0 w l) (i : Nat) (hi : l[i]? = some (b, T, arr c)) (hw : c.wf) : Rep.Row cmdRep (fun _ => True) w (some ⟨b, 0, none⟩) [c] := by
  refine ⟨by simp [maxLen], fun _ => ⟨_, rfl, trivial, hB.lt i hi, fun k x hk => ?_⟩⟩
  have hk0 : k = 0 := by have := (List.getElem?_eq_some_iff.1 hk).1; simpa using this
  subst hk0
  have hx : c = x := by simpa using hk
  subst hx
  refine ⟨(arr c).toList, ⟨rfl, hw⟩, fun j u hu => ?_⟩
  have e1 : (⟨b, 0, none⟩ : Addr).add (0 * cmdRep.sz + j) = ⟨b, j, none⟩ := by
    unfold Addr.add
    split <;> simp_all
  rw [e1, hB.cell i hi j]
  simpa using hu
theorem qe_row {w0 w : World} {l : List (Nat × TypeId × Array Value)} {b : Nat} {T : TypeId} {C : Array Value} (hB : Bs w0 w l) (i : Nat) (hi : l[i]? = some (b, T, C)) (xs : List QE) (hm : xs.length ≤ maxLen) (h : ∀ k x, xs[k]? = some x → (∀ j u, x.er.cells[j]? = some u → C[k * 19 + j]? = some u) ∧ QF (fun _ => True) w x) : Rep.Row qeRep (fun _ => True) w (some ⟨b, 0, none⟩) xs := by
  refine ⟨hm, fun _ => ⟨_, rfl, trivial, hB.lt i hi, fun k x hk => ?_⟩⟩
  obtain ⟨h1, h2⟩ := h k x hk
  refine ⟨x.er.cells.toList, ⟨rfl, h2⟩, fun j u hu => ?_⟩
  have e1 : (⟨b, 0, none⟩ : Addr).add (k * qeRep.sz + j) = ⟨b, k * 19 + j, none⟩ := by
    show (⟨b, 0, none⟩ : Addr).add (k * 19 + j) = _
    unfold Addr.add
    split <;> simp_all
  rw [e1, hB.cell i hi]
  exact h1 j u (by simpa using hu)
/-- A command that lies at an address. -/
theorem QAt.cmd {w : World} {p : Addr} {x : QE} (h : QAt w p x) : w.cell? p = some (.int .i64 x.er.c.id) ∧ w.cell? ⟨p.block, p.off + 1, none⟩ = some (.int .i64 x.er.c.kind) ∧ w.cell? ⟨p.block, p.off + 2, none⟩ = some (.int .i64 x.er.c.sym) ∧ w.cell? ⟨p.block, p.off + 3, none⟩ = some (.int .i64 x.er.c.tgt) ∧ w.cell? ⟨p.block, p.off + 4, none⟩ = some (.int .i64 x.er.c.side) ∧ w.cell? ⟨p.block, p.off + 5, none⟩ = some (.int .i64 x.er.c.price) ∧ w.cell? ⟨p.block, p.off + 6, none⟩ = some (.int .i64 x.er.c.qty) := by
  have add_pos : ∀ j, 0 < j → p.add j = ⟨p.block, p.off + j, none⟩ := fun j hj => by
    unfold Addr.add
    rw [if_neg (by omega)]
  have h0 := h 0 _ rfl
  have h1 := h 1 _ rfl
  have h2 := h 2 _ rfl
  have h3 := h 3 _ rfl
  have h4 := h 4 _ rfl
  have h5 := h 5 _ rfl
  have h6 := h 6 _ rfl
  rw [add_pos 1 (by omega)] at h1
  rw [add_pos 2 (by omega)] at h2
  rw [add_pos 3 (by omega)] at h3
  rw [add_pos 4 (by omega)] at h4
  rw [add_pos 5 (by omega)] at h5
  rw [add_pos 6 (by omega)] at h6
  exact ⟨h0, h1, h2, h3, h4, h5, h6⟩
end Go.Proofs.Ytebhclgnpnlekaa.Ord
namespace Go.Proofs.Ytebhclgnpnlekaa.Chk
open Go.RowKit Go.Proofs.Ytebhclgnpnlekaa.B Go.Proofs.Ytebhclgnpnlekaa.Cmd Go.Proofs.Ytebhclgnpnlekaa.Agg Go.Proofs.Ytebhclgnpnlekaa.Ent Go.Proofs.Ytebhclgnpnlekaa.Ord
open Go.Proofs.Ytebhclgnpnlekaa.Pr (arr arr_size arr_one isC zeroC)
def mk (e : ER) : Array Value := #[.int .i64 e.c.id, .int .i64 e.c.kind, .int .i64 e.c.sym, .int .i64 e.c.tgt, .int .i64 e.c.side, .int .i64 e.c.price, .int .i64 e.c.qty, .int .i64 e.v.t, .slice e.v.A e.v.n e.v.c]
theorem mk_size (e : ER) : (mk e).size = 9 := rfl
theorem mk_ones (e : ER) : ∀ u ∈ (mk e).toList, u.oneCell' = true := by
  intro u hu
  simp only [mk, List.mem_cons, List.not_mem_nil, or_false] at hu
  rcases hu with rfl | rfl | rfl | rfl | rfl | rfl | rfl | rfl | rfl <;> rfl
theorem mk_one (e : ER) : (mk e).all (·.oneCell') = true := Array.all_eq_true_iff_forall_mem.2 fun u hu => mk_ones e u (by simpa using hu)
theorem isM : IsStruct Try.prog 177 9 := ⟨by kernel_rfl, by kernel_rfl⟩
def markRep : Rep QE where
  sz := 9
  K I w x cs := cs = (mk x.er).toList ∧ QF I w x
  len h := by rw [h.1]; rfl
  one h := by rw [h.1]; exact mk_ones _
  move hm h := ⟨h.1, h.2.move hm⟩
theorem info_mk : (Try.prog.info? 177).map (fun i => (i.zero, i.size, i.bytes)) = some (some (.agg (mk noER)), 9, 88) := by kernel_rfl
theorem built_mk (e : ER) : Try.prog.builtSlice 177 1 [(0, .agg (mk e))] = some (mk e) := by kernel_rfl
/-- A row of marks of the call's own. -/
structure MO (I : Nat → Prop) (w0 w : World) (v : Value) (xs : List QE) : Prop where
  own : Rep.Own markRep 177 w0.heap.size I w v xs
  bel : Below w0.heap.size w0 w
theorem MO.turn {I : Nat → Prop} {w0 w w' : World} {v : Value} {xs : List QE} {b : Nat} (hI : ∀ k, I k → k < w0.heap.size) (h : MO I w0 w v xs) (hf : Fr (fun x => x = b) w w') (hb : w0.heap.size ≤ b) (hn : v.ownBlock ≠ some b) : MO I w0 w' v xs :=
  ⟨h.own.move (fun k hk => hf.block k (h.own.block_lt k hk).2 (fun e => hn (by rw [hk, e]))) (fun k hk _ hlt => ⟨hk, hf.block k hlt (fun e => by have := hI k hk; omega)⟩),
   ⟨hf.os.trans h.bel.os, hf.tape.trans h.bel.tape, hf.output.trans h.bel.output, Nat.le_trans h.bel.size hf.size, fun k hk => (hf.block k (Nat.lt_of_lt_of_le hk h.bel.size) (fun e => by omega)).trans (h.bel.block k hk)⟩⟩
/-- Names that were seen. -/
def seen (L : List QE) : Int → Option Value := fun i => if L.any (isId i) = true then some (.bool true) else none
theorem seen_get (L : List QE) (i : Int) : (seen L i).getD (.bool false) = .bool (L.any (isId i)) := by
  unfold seen
  cases L.any (isId i) <;> rfl
theorem seen_add (L : List QE) (e : QE) : (fun j => if j = e.id then some (Value.bool true) else seen L j) = seen (L ++ [e]) := by
  funext j
  unfold seen
  rw [List.any_append]
  by_cases h : j = e.id
  · subst h
    rw [if_pos rfl]
    simp [isId]
  · rw [if_neg h]
    have : isId j e = false := by simpa [isId] using fun he => h he.symm
    simp [this]
theorem zeroB_run (w : World) : (zeroValue 4).run Try.prog w = .ok (.bool false) w := by
  have h : (Try.prog.info? 4).map (fun i => i.zero) = some (some (.bool false)) := by kernel_rfl
  cases hq : Try.prog.info? 4 with
  | none => simp [hq] at h
  | some i =>
    have : i.zero = some (.bool false) := by simpa [hq] using h
    simp [zeroValue, typeInfo, hq, this]
set_option maxHeartbeats 8000000 in
set_option maxRecDepth 100000 in
/-- A view's marks. -/
theorem marks_calls (A B : Option Addr) (c m d : Nat) (L : List QE) (I : Nat → Prop) (w : World) (hI : ∀ k, I k → k < w.heap.size) (h : Rep.Row qeRep I w A L) (hl : L.length ≤ 100000) :
    Calls Try.prog 126 #[.agg #[.slice A L.length c, .slice B m d]] w fun r w' => ∃ v, r = .returned v ∧ Hold (MO I w w' v (own L)) := by
  have H := Hold.mk h
  have hm := h.len_le
  have HL := Hold.mk hl
  have HIn := Hold.mk hI
  clear h hl hI
  have hmm := @run_makeMap Try.prog
  obtain ⟨g, hg⟩ : ∃ g, w.heap.size = g := ⟨_, rfl⟩
  obtain ⟨mb, hmb⟩ : ∃ g', g + 1 = g' := ⟨_, rfl⟩
  obtain ⟨W, hW⟩ : ∃ W, (w.alloc (.cells #[.slice A L.length c, .slice B m d] 114)).alloc (.map #[] 0) = W := ⟨_, rfl⟩
  have hmap0 : MapI.MapAt Try.prog 3 W mb 0 (seen []) := by
    have m1 := MapI.MapAt.made (w.alloc (.cells #[.slice A L.length c, .slice B m d] 114)) Try.prog 3
    have s1 : (w.alloc (.cells #[.slice A L.length c, .slice B m d] 114)).heap.size = mb := by simp [hg, hmb]
    rw [s1, hW] at m1
    exact m1
  have hbel : Below w.heap.size w W := by rw [← hW]; exact (((Below.refl _ _).alloc (Nat.le_refl _) _).alloc (by simp) _)
  have HM0 := Hold.mk hmap0
  have HO0 : Hold (MO I w W (.slice none 0 0) []) := ⟨⟨Rep.Own.nil _ _ _ _ _, hbel⟩⟩
  have HMl : Hold (w.heap.size ≤ mb) := ⟨by omega⟩
  have fc : W.cell? ⟨g, 0, none⟩ = some (.slice A L.length c) := by
    have h1 : (w.alloc (.cells #[.slice A L.length c, .slice B m d] 114)).heap[g]? = some (.cells #[.slice A L.length c, .slice B m d] 114 (0, 0)) := by rw [← hg]; exact Array.getElem?_push_size ..
    have h2 : W.heap[g]? = some (.cells #[.slice A L.length c, .slice B m d] 114 (0, 0)) := by rw [← hW]; exact (Below.heap_alloc _ _ g (by simp; omega)).trans h1
    exact cell_heap h2 0
  clear hmap0 hbel
  go_enter Try.func126, Try.ntmps126
  go_wp2
  clear hmm hmb hW fc
  go_loopw [3, 11] (fun v s wr => ∃ i : Nat, i ≤ L.length ∧ s = .int .i64 (i : Int) ∧ Hold (MO I w wr v (own (L.take i))) ∧ Hold (MapI.MapAt Try.prog 3 wr mb i (seen (L.take i))) ∧ Hold (v.ownBlock ≠ some mb)) (fun _ s _ => L.length - (intOf s).toNat)
  case atStart => exact ⟨0, by omega, rfl, HO0, HM0, ⟨by simp [Value.ownBlock]⟩⟩
  case round =>
    obtain ⟨i, hi, rfl, HO, HM, HNe⟩ := hrel
    by_cases hlt : i < L.length
    · have l1 : (i : Int) < (L.length : Int) := by omega
      have hF0' := row_qe H.out i hlt
      obtain ⟨ad, p, rfl, hp, _, hQx', _⟩ := row_qe (H.out.below HO.out.bel) i hlt
      have hT : L.take (i + 1) = L.take i ++ [L[i]] := List.take_succ_eq_append_getElem hlt
      obtain ⟨e, he⟩ : ∃ e, L[i] = e := ⟨_, rfl⟩
      rw [he] at hQx' hF0' hT
      have hF0 : QF I w e := by
        obtain ⟨_, _, _, _, _, _, hF⟩ := hF0'
        exact hF
      have hos := own_snoc (L.take i) e
      have hsa := seen_add (L.take i) e
      rw [← hT] at hos hsa
      have hol : (own (L.take i)).length ≤ i := by
        have h1 := List.length_filter_le (fun e : QE => e.dn) (dd (L.take i))
        have h2 := dd_len (L.take i)
        rw [List.length_take] at h2
        unfold own
        omega
      obtain ⟨S, hS⟩ : ∃ S, L.take i = S := ⟨_, rfl⟩
      rw [hS] at hos hsa HO HM hol
      obtain ⟨P, hP⟩ : ∃ P, own S = P := ⟨_, rfl⟩
      rw [hP] at hos HO hol
      obtain ⟨x, pe⟩ := e
      have hQx : ∀ (j : Nat) (u : Value), x.cells[j]? = some u → wr.cell? (p.add j) = some u := hQx'
      obtain ⟨id, hid⟩ : ∃ id, x.c.id = id := ⟨_, rfl⟩
      obtain ⟨D, hD⟩ : ∃ D, x.dn = D := ⟨_, rfl⟩
      obtain ⟨d1, h1⟩ : ∃ d1, S.any (isId id) = d1 := ⟨_, rfl⟩
      have HOs : Hold (own (L.take (i + 1)) = if (!d1 && D) = true then P ++ [⟨x, pe⟩] else P) := ⟨by rw [hos]; simp only [QE.id, QE.dn, hid, hD, h1]⟩
      have HSa : Hold ((fun j => if j = id then some (Value.bool true) else seen S j) = seen (L.take (i + 1))) := ⟨by rw [← hsa]; simp only [QE.id, hid]⟩
      have HW : Hold ((Lit.int .i64 id).wf = true) := ⟨hid ▸ hF0.c.1⟩
      have HLk : Hold (∀ w', Below wr.heap.size wr w' → (Instr.lookup 190 (.map (some mb)) (.int .i64 id) false).run Try.prog w' = .ok (.bool d1) w') := ⟨fun w' hw' => by
        rw [(HM.out.below hw').look1 Try.underlying3 Try.underlying190 (zeroB_run w') id HW.out, seen_get, h1]⟩
      have HF := Hold.mk hF0
      have HLn : Hold ((P.length + 1) * 88 ≤ 140737488355328) := ⟨by have := HL.out; omega⟩
      have HNx : Hold (i < maxLen) := ⟨by have := HL.out; simp only [maxLen]; omega⟩
      have ka := x.all
      rw [hid, hD] at ka
      have hB0 := Bs.nil wr
      clear hQx' hF0' hF0 hos hsa hol hS hP he hT h1 hid hD
      cases D
      · cases d1
        all_goals
          go_wp2_with (first
            | (with_reducible refine gateA 70 ?_; refine wpl_alloc zeroE hB0 rfl ?_; intro W2 g2 hB; simp only [List.nil_append] at hB)
            | (with_reducible refine gateS 70 ?_; refine wpl_store (C' := x.cells) isE rfl rfl hB 0 rfl (ER.size _) (ER.size _) (ER.one _) rfl ?_; intro W3 hB; simp only [List.set] at hB; have hc := hB.cell 0 rfl; have fl := HLk.out _ hB.below)
            | (with_reducible refine gateL 70 ?_; refine wpl_loadO isE rfl (ER.size x) hQx rfl ?_)
            | (with_reducible refine gateM 190 ?_; refine MapI.wpl_update rfl id (.bool true) rfl rfl (HM.out.below hB.below) Try.underlying3 Try.underlying190 HNx.out HW.out rfl ?_; intro w8 hm8 hf8))
          rw [HSa.out] at hm8
          have hbl : Below w.heap.size w W3 := HO.out.bel.trans (hB.below.mono HO.out.bel.size)
          have HO8 : Hold (MO I w w8 u3 P) := ⟨MO.turn HIn.out ⟨HO.out.own.below hB.below, hbl⟩ hf8 HMl.out HNe.out⟩
          exact ⟨⟨i + 1, by omega, by go_num, by rw [HOs.out]; exact HO8, ⟨hm8⟩, HNe⟩, by simp [intOf]; omega⟩
      · cases d1
        · go_wp2_with (first
            | (with_reducible refine gateA 70 ?_; refine wpl_alloc zeroE hB0 rfl ?_; intro W2 g2 hB; simp only [List.nil_append] at hB)
            | (with_reducible refine gateS 70 ?_; refine wpl_store (C' := x.cells) isE rfl rfl hB 0 rfl (ER.size _) (ER.size _) (ER.one _) rfl ?_; intro W3 hB; simp only [List.set] at hB; have hc := hB.cell 0 rfl; have fl := HLk.out _ hB.below; have HO3 := Hold.mk (HO.out.own.below hB.below); have HZ3 := Hold.mk (HO.out.bel.trans (hB.below.mono HO.out.bel.size)))
            | (with_reducible refine gateL 70 ?_; refine wpl_loadO isE rfl (ER.size x) hQx rfl ?_)
            | (with_reducible refine gateL 45 ?_; refine wpl_loadF isC (V := #[.int .i64 x.c.id, .int .i64 x.c.kind, .int .i64 x.c.sym, .int .i64 x.c.tgt, .int .i64 x.c.side, .int .i64 x.c.price, .int .i64 x.c.qty]) rfl hB 0 rfl rfl rfl rfl ?_)
            | (with_reducible refine gateL 34 ?_; refine wpl_loadF isV (V := #[.int .i64 x.v.t, .slice x.v.A x.v.n x.v.c]) rfl hB 0 rfl rfl rfl rfl ?_)
            | (with_reducible refine gateB 166 ?_; refine wpl_box1 Try.underlying166 rfl (built_mk x) rfl ?_)
            | (at_builtin; refine Rep.wp_push markRep rfl (.tmp 25) (.tmp 31) 166 177 (.agg (mk noER)) 88 rfl Try.underlying166 info_mk rfl (by decide) (by decide) w.heap.size I I u3 P ⟨x, pe⟩ (mk x).toList rfl rfl HO3.out ⟨rfl, HF.out.below HZ3.out⟩ (fun k hk _ => ⟨hk, fun h => by have h1 := (HO3.out.block_lt k h.symm).1; have h2 := HIn.out k hk; omega⟩) HZ3.out.size HLn.out ?_; intro A1 c1 w5 HG5; have HG2 := Hold.mk (HG5.out.fr.block g2 (hB.lt 0 rfl) (fun e => by have h1 := (HO.out.own.block_lt g2 e).2; have h2 := (hB.at_ 0 _ _ _ rfl).2; omega)); have hc := cell_heap (HG2.out.trans (hB.at_ 0 _ _ _ rfl).1); have HM5 := Hold.mk ((HM.out.below hB.below).fr HG5.out.fr HNe.out))
            | (with_reducible refine gateM 190 ?_; refine MapI.wpl_update rfl id (.bool true) rfl rfl HM5.out Try.underlying3 Try.underlying190 HNx.out HW.out rfl ?_; intro w8 hm8 hf8))
          rw [HSa.out] at hm8
          have hb5 : Below w.heap.size w w5 := HZ3.out.trans (HG5.out.below (fun k hk => (HO3.out.block_lt k hk).1) HZ3.out.size)
          have ho5 := HG5.out.own
          have hne5 : (Value.slice A1 (P ++ [(⟨x, pe⟩ : QE)]).length c1).ownBlock ≠ some mb := fun h => by
            rcases HG5.out.at_ with e | ⟨m, e, hm⟩
            · exact HNe.out (by rw [← e]; exact h)
            · rw [e] at h
              cases h
              have := (HM.out.below hB.below).lt
              omega
          rw [List.length_append, List.length_singleton] at ho5 hne5
          have HO8 : Hold (MO I w w8 (.slice A1 (P.length + 1) c1) (P ++ [⟨x, pe⟩])) := ⟨MO.turn HIn.out ⟨ho5, hb5⟩ hf8 HMl.out hne5⟩
          refine ⟨⟨i + 1, ?_, ?_, ?_, ⟨hm8⟩, ⟨hne5⟩⟩, ?_⟩
          · omega
          · go_num
          · rw [HOs.out]; exact HO8
          · simp only [intOf]
            omega
        · go_wp2_with (first
            | (with_reducible refine gateA 70 ?_; refine wpl_alloc zeroE hB0 rfl ?_; intro W2 g2 hB; simp only [List.nil_append] at hB)
            | (with_reducible refine gateS 70 ?_; refine wpl_store (C' := x.cells) isE rfl rfl hB 0 rfl (ER.size _) (ER.size _) (ER.one _) rfl ?_; intro W3 hB; simp only [List.set] at hB; have hc := hB.cell 0 rfl; have fl := HLk.out _ hB.below)
            | (with_reducible refine gateL 70 ?_; refine wpl_loadO isE rfl (ER.size x) hQx rfl ?_)
            | (with_reducible refine gateM 190 ?_; refine MapI.wpl_update rfl id (.bool true) rfl rfl (HM.out.below hB.below) Try.underlying3 Try.underlying190 HNx.out HW.out rfl ?_; intro w8 hm8 hf8))
          rw [HSa.out] at hm8
          have hbl : Below w.heap.size w W3 := HO.out.bel.trans (hB.below.mono HO.out.bel.size)
          have HO8 : Hold (MO I w w8 u3 P) := ⟨MO.turn HIn.out ⟨HO.out.own.below hB.below, hbl⟩ hf8 HMl.out HNe.out⟩
          exact ⟨⟨i + 1, by omega, by go_num, by rw [HOs.out]; exact HO8, ⟨hm8⟩, HNe⟩, by simp [intOf]; omega⟩
    · obtain rfl : i = L.length := by omega
      go_wp2
      go_ret
      have ho := HO.out
      rw [List.take_length] at ho
      exact ⟨_, rfl, ⟨ho⟩⟩
end Go.Proofs.Ytebhclgnpnlekaa.Chk
