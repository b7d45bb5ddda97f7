/- package order's all, by its walk. No condition. -/
import Derived.Test.YtebhclgnpnlekaaOrdO
import Derived.Test.YtebhclgnpnlekaaOrdS
namespace Go.Proofs.Ytebhclgnpnlekaa.Ord
open Go.RowKit Go.Proofs.Ytebhclgnpnlekaa.B Go.Proofs.Ytebhclgnpnlekaa.Cmd Go.Proofs.Ytebhclgnpnlekaa.Agg Go.Proofs.Ytebhclgnpnlekaa.Ent
open Go.Proofs.Ytebhclgnpnlekaa.Pr (CO)
theorem wpl_loadH {P : Program} {ops : Array Oper} {rest : List Oper} {a : Act} {w : World} {Q : Exit → Act → World → Prop} {dst : Option Tmp} {T T' ty : TypeId} {pos : String} {after : Array Edge} {gd : Option (Nat × Bool)} {x : Operand} {b n : Nat} {C : Array Value} (hT : IsStruct P T n) (hx : a.eval x = .pointer (some ⟨b, 0, none⟩)) (hb : w.heap[b]? = some (.cells C T' (0, 0))) (hs : C.size = n) (hw : Region.wanted ⟨dst, .load T x, ty, pos, after, gd⟩ (yielded ops a.tmps) = true)
    (h : wpList P ops Q rest (a.put dst (.agg C)) w) : wpList P ops Q (⟨dst, .load T x, ty, pos, after, gd⟩ :: rest) a w := by
  refine wpList_step fun K hK => ?_
  rw [if_pos hw]
  unfold Oper.wp execOp
  simp only [hx, Sem.run_bind, load_run hT hb hs, Result.andThen_ok, Sem.run_pure]
  exact hK _ _ h
def lenOf : Value → Nat
  | .slice _ n _ => n
  | _ => 0
def cmds (l : List QE) : List CmdD := l.map (·.er.c)
section
variable {w0 w w' : World} {B mb db N : Nat} {v : Value} {X l : List QE} {had : List Int}
/-- All that is the queue's lies below N. -/
structure QN (N B mb db : Nat) (v : Value) : Prop where
  b : B < N
  m : mb < N
  d : db < N
  o : ∀ k, v.ownBlock = some k → k < N
theorem QU.qn (h : QU w0 w B mb db v X l had) : QN w.heap.size B mb db v := ⟨h.lt, h.by_.lt, h.dn.lt, fun k hk => (h.own.own.block_lt k hk).2⟩
theorem QU.belowN (h : QU w0 w B mb db v X l had) (hN : QN N B mb db v) (h0 : w0.heap.size ≤ N) (hb : Below N w w') : QU w0 w' B mb db v X l had :=
  ⟨(hb.block B hN.b).trans h.blk,
   ⟨h.own.own.move (fun k hk => hb.block k (hN.o k hk)) (fun k hk _ _ => ⟨hk, hb.block k (Nat.lt_of_lt_of_le hk h0)⟩), h.bel.trans (hb.mono h0)⟩,
   h.by_.keep (hb.block mb hN.m), h.dn.keep (hb.block db hN.d), h.lB, h.lm, h.ld, h.sep, h.off⟩
theorem QU.wf (h : QU w0 w B mb db v X l had) {e : QE} (he : e ∈ X) : e.er.c.wf := by
  obtain ⟨A, c, rfl, _, _⟩ := h.own.form
  obtain ⟨i, hi, rfl⟩ := List.getElem_of_mem he
  obtain ⟨_, _, _, _, _, _, hF⟩ := row_qe h.own.own.row i hi
  exact hF.c
theorem ids_snoc (os : List QE) (e : QE) : ids (os ++ [e]) = ids os ++ [e.id] := by simp [ids]
theorem cmds_snoc (os : List QE) (e : QE) : cmds (os ++ [e]) = cmds os ++ [e.er.c] := by simp [cmds]
set_option maxHeartbeats 8000000 in
set_option maxRecDepth 100000 in
theorem all_calls (w : World) (hQ : QU w0 w B mb db v (dd l) l had) (hl : l.length ≤ 100000) (hh : had.length ≤ 100000) :
    Calls Try.prog 123 #[.pointer (some ⟨B, 0, none⟩)] w fun r w' => ∃ out, r = .returned out ∧ Hold (CO w0 w' out (cmds (allS l had))) ∧ Hold (QU w0 w' B mb db v (dd l) l (had ++ ids (allS l had))) := by
  have HQ := Hold.mk hQ
  have HN := Hold.mk hQ.qn
  obtain ⟨N, hN⟩ : ∃ N, w.heap.size = N := ⟨_, rfl⟩
  rw [hN] at HN
  have h0 : w0.heap.size ≤ N := by rw [← hN]; exact hQ.bel.size
  have HL := Hold.mk hl
  have HH := Hold.mk hh
  have HNx := Hold.mk (next_calls w hQ)
  have hn0 : nextS l had = upS l had (dd l) := rfl
  clear hQ
  go_enter Try.func123, Try.ntmps123
  go_wp2_with (first
    | (go_at_call 121; with_reducible refine HNx.out.mono ?_; rintro r w1 ⟨rfl, hb1⟩; rw [← hn0]; have hB0 := Bs.nil w1)
    | (with_reducible refine gateA 70 ?_; refine wpl_alloc zeroE hB0 rfl ?_; intro W2 g1 hB; simp only [List.nil_append] at hB)
    | (with_reducible refine gateS 70 ?_; refine wpl_store (C' := (bestOf (nextS l had)).cells) isE rfl rfl hB 0 rfl (ER.size _) (ER.size _) (ER.one _) rfl ?_; intro W3 hB; simp only [List.set] at hB))
  have HX0 : Hold (QU w0 W3 B mb db v (dd l) l had) := ⟨HQ.out.below (hb1.trans (hB.below.mono hb1.size))⟩
  have HI : Hold (W3.heap[g1]? = some (.cells (bestOf (nextS l had)).cells 70 (0, 0)) ∧ N ≤ g1 ∧ (Value.slice none 0 0).ownBlock ≠ some g1) := ⟨(hB.at_ 0 _ _ _ rfl).1, by have h1 := (hB.at_ 0 _ _ _ rfl).2; have h2 := hb1.size; omega, by simp [Value.ownBlock]⟩
  have hi0 : had ++ ids [] = had := by simp [ids]
  have HZ : Hold (N ≤ W3.heap.size) := ⟨by have h1 := hB.below.size; have h2 := hb1.size; omega⟩
  clear hb1 hB HNx
  go_loopw [3, 4, 5] (fun out p ok wr => ∃ os : List QE, ∃ nx : Option QE, Hold (Run l had os) ∧ Hold (nextS l (had ++ ids os) = nx) ∧ ok = .bool nx.isSome ∧ lenOf out = os.length ∧ ∃ b, p = .pointer (some ⟨b, 0, none⟩) ∧ Hold (wr.heap[b]? = some (.cells (bestOf nx).cells 70 (0, 0)) ∧ N ≤ b ∧ out.ownBlock ≠ some b) ∧ Hold (Rep.Own cmdRep 45 N nob wr out (cmds os)) ∧ Hold (QU w0 wr B mb db v (dd l) l (had ++ ids os)) ∧ Hold (N ≤ wr.heap.size)) (fun out _ _ _ => l.length + 1 - lenOf out)
  case atStart => exact ⟨[], nextS l had, ⟨Run.start l had⟩, ⟨by rw [hi0]⟩, rfl, rfl, g1, rfl, HI, ⟨Rep.Own.nil _ _ _ _ _⟩, by rw [hi0]; exact HX0, HZ⟩
  case round =>
    obtain ⟨os, nx, HRun, HNxt, rfl, hlen, b, rfl, HBk, HOw, HQr, HZr⟩ := hrel
    cases nx with
    | none =>
      have HE : Hold (os = allS l had) := ⟨HRun.out.stop HNxt.out⟩
      go_wp2
      go_ret
      exact ⟨_, rfl, ⟨⟨by rw [← HE.out]; exact HOw.out.lower h0, HQr.out.bel⟩⟩, ⟨by rw [← HE.out]; exact HQr.out⟩⟩
    | some e =>
      obtain ⟨hst, hlt⟩ := HRun.out.step HNxt.out
      have HSt := Hold.mk hst
      obtain ⟨x, hx⟩ : ∃ x, e.er = x := ⟨_, rfl⟩
      have hwf := HQr.out.wf (up_some HNxt.out).1
      rw [hx] at hwf
      have HW := Hold.mk hwf
      have hbest : bestOf (some e) = x := hx
      rw [hbest] at HBk
      obtain ⟨G, hG⟩ : ∃ G, had ++ ids os = G := ⟨_, rfl⟩
      have hGl : G.length ≤ 200000 := by
        rw [← hG, List.length_append, ids, List.length_map]
        have := HL.out
        have := HH.out
        omega
      rw [hG] at HQr
      have HG := Hold.mk hG
      obtain ⟨id, hid⟩ : ∃ id, x.c.id = id := ⟨_, rfl⟩
      have HGi : Hold (had ++ ids (os ++ [e]) = G ++ [id]) := ⟨by rw [ids_snoc, ← List.append_assoc, hG, ← hid, ← hx]⟩
      have hcnt : G.count id ≤ 200000 := Nat.le_trans List.count_le_length hGl
      obtain ⟨m, hm3⟩ : ∃ m, ((G.count id : Nat) : Int) = m := ⟨_, rfl⟩
      have m0 : 0 ≤ m := by omega
      have m1 : m ≤ 200000 := by omega
      have hwr : IntKind.i64.wrap (m + 1) = m + 1 := by rw [IntKind.wrap_i64]; omega
      have fl : (Instr.lookup 161 (.map (some db)) (.int .i64 id) false).run Try.prog wr.drew = .ok (.int .i64 m) wr.drew := by rw [← hm3]; exact HQr.out.drew.count id (hid ▸ hwf.1)
      have HCn : Hold ((fun j => if j = id then some (Value.int .i64 (m + 1)) else counts G j) = counts (G ++ [id])) := ⟨by rw [← hm3]; exact counts_add G id⟩
      have f2 := HQr.out.cells.2.2
      have f0 : wr.cell? ⟨b, 0, none⟩ = some (.int .i64 id) := (cell_heap HBk.out.1 0).trans (by rw [← hid]; rfl)
      have HN1 : Hold (G.length < maxLen) := ⟨by simp only [maxLen]; omega⟩
      have HWi : Hold ((Lit.int .i64 id).wf = true) := ⟨hid ▸ hwf.1⟩
      have HLn : Hold (((cmds os).length + 1) * 56 ≤ 140737488355328) := ⟨by rw [cmds, List.length_map]; have := HL.out; omega⟩
      have HCs : Hold (cmds (os ++ [e]) = cmds os ++ [x.c]) := ⟨by rw [cmds_snoc, hx]⟩
      have HCl : Hold ((cmds os).length = os.length) := ⟨by simp [cmds]⟩
      have hown := HOw.out.block_lt
      have HO2 : Hold (∀ k, u3.ownBlock = some k → N ≤ k) := ⟨fun k hk => (hown k hk).1⟩
      have HDb : Hold (b ≠ db ∧ ¬ u3.ownBlock = some db) := ⟨by have := HN.out.d; have := HBk.out.2.1; omega, fun h => by have := (hown _ h).1; have := HN.out.d; omega⟩
      clear hst hwf hbest hG hGl hcnt hm3 hid hx hown
      go_upto_region 5 with (fail)
      go_still_tail 9, (by kernel_rfl)
      change wpList _ _ _ _ _ wr.drew
      with_reducible refine gateM 161 ?_
      refine MapI.wpl_update rfl id (.int .i64 (m + 1)) rfl rfl HQr.out.drew.dn Try.underlying3 Try.underlying161 HN1.out HWi.out rfl ?_
      intro w3 hm3 hf3
      rw [HCn.out] at hm3
      have HQ3 := Hold.mk (HQr.out.drew.cnt id hf3 hm3)
      have HB3 := Hold.mk ((hf3.block b (Array.getElem?_eq_some_iff.1 HBk.out.1).1 HDb.out.1).trans HBk.out.1)
      have HO3 : Hold (Rep.Own cmdRep 45 N nob w3 u3 (cmds os)) := ⟨HOw.out.drew.move (fun k hk => hf3.block k (HOw.out.block_lt k hk).2 (fun h => HDb.out.2 (by rw [hk, h]))) (fun k hk _ _ => hk.elim)⟩
      have HZ3 : Hold (N ≤ w3.heap.size) := ⟨Nat.le_trans HZr.out hf3.size⟩
      have hc := cell_heap HB3.out
      have ka := x.all
      clear hm3 hf3
      go_wp2_with (first
        | (at_builtin; refine Rep.wp_push cmdRep rfl (.tmp 26) (.tmp 29) 23 45 (.agg #[.int .i64 0, .int .i64 0, .int .i64 0, .int .i64 0, .int .i64 0, .int .i64 0, .int .i64 0]) 56 rfl Try.underlying23 info_cmd Rd.cmd_zs Rd.cmd_sz0 (by decide) N nob nob u3 (cmds os) x.c [.int .i64 x.c.id, .int .i64 x.c.kind, .int .i64 x.c.sym, .int .i64 x.c.tgt, .int .i64 x.c.side, .int .i64 x.c.price, .int .i64 x.c.qty] rfl rfl HO3.out ⟨rfl, HW.out⟩ (fun _ h _ => h.elim) HZ3.out HLn.out ?_; intro A1 c1 w4 HG4; have HB4 := Hold.mk ((HG4.out.fr.block b (Array.getElem?_eq_some_iff.1 HB3.out).1 HBk.out.2.2).trans HB3.out); have HL4 := Hold.mk (HG4.out.below HO2.out HZ3.out); have HQ4 := Hold.mk (HQ3.out.belowN HN.out h0 HL4.out); have hBn := Bs.nil w4)
        | (with_reducible refine gateL 70 ?_; refine wpl_loadH isE rfl HB4.out (ER.size x) rfl ?_)
        | (with_reducible refine gateA 70 ?_; refine wpl_alloc zeroE hBn rfl ?_; intro W5 g5 hB5; simp only [List.nil_append] at hB5)
        | (with_reducible refine gateS 70 ?_; refine wpl_store (C' := x.cells) isE rfl rfl hB5 0 rfl (ER.size _) (ER.size _) (ER.one _) rfl ?_; intro W6 hB6; simp only [List.set] at hB6)
        | (go_at_call 121; refine (next_calls _ (HQ4.out.below hB6.below)).mono ?_; rintro r w7 ⟨rfl, hb7⟩; replace hB6 := hB6.step hb7; obtain ⟨nx2, hn2⟩ : ∃ nx2, upS l (G ++ [id]) (dd l) = nx2 := ⟨_, rfl⟩; rw [hn2]; have HN2 := Hold.mk hn2; clear hn2)
        | (with_reducible refine gateS 70 ?_; refine wpl_store (C' := (bestOf nx2).cells) isE rfl rfl hB6 0 rfl (ER.size _) (ER.size _) (ER.one _) rfl ?_; intro W8 hB8; simp only [List.set] at hB8))
      have hz4 : N ≤ w4.heap.size := Nat.le_trans HZ3.out HL4.out.size
      have hg5 := (hB8.at_ 0 _ _ _ rfl).2
      have ho4 := HG4.out.own
      rw [List.length_append, List.length_singleton] at ho4
      have hlt4 := ho4.block_lt
      have ho8 := ho4.below hB8.below
      rw [← HCs.out] at ho8
      exact ⟨⟨os ++ [e], nx2, HSt, ⟨by rw [HGi.out]; exact HN2.out⟩, rfl, by simp [lenOf, HCl.out], g5, rfl, ⟨(hB8.at_ 0 _ _ _ rfl).1, by omega, fun h => by have := (hlt4 _ h).2; omega⟩, ⟨ho8⟩, ⟨by rw [HGi.out]; exact HQ4.out.below hB8.below⟩, ⟨Nat.le_trans hz4 hB8.below.size⟩⟩, by rw [hlen]; simp only [lenOf, HCl.out]; omega⟩
end
end Go.Proofs.Ytebhclgnpnlekaa.Ord
