/- package check's Look, by its walk. No condition. -/
import Derived.Test.YtebhclgnpnlekaaChkL
import Derived.Test.YtebhclgnpnlekaaChkR
namespace Go.Proofs.Ytebhclgnpnlekaa.Chk
open Go.RowKit Go.Proofs.Ytebhclgnpnlekaa.B Go.Proofs.Ytebhclgnpnlekaa.Cmd Go.Proofs.Ytebhclgnpnlekaa.Agg Go.Proofs.Ytebhclgnpnlekaa.Ent Go.Proofs.Ytebhclgnpnlekaa.Ord
theorem below_frK {w W W' : World} {g : Nat} (hb : Below w.heap.size w W) (hf : Fr (fun k => k = g) W W') (hg : w.heap.size ≤ g) : Below w.heap.size w W' :=
  ⟨hf.os.trans hb.os, hf.tape.trans hb.tape, hf.output.trans hb.output, Nat.le_trans hb.size hf.size, fun k hk => (hf.block k (Nat.lt_of_lt_of_le hk hb.size) (fun e => by omega)).trans (hb.block k hk)⟩
/-- One of the three looks. -/
def FT (F : FuncId) (f : Nat) : Prop := ∀ (a b : QE) (I J : Nat → Prop) (o : Option Pair) (g : Nat) (w : World), w.heap[g]? = some (.cells (fcells o) 175 (0, 0)) → QF J w a → QF I w b →
  Calls Try.prog F #[.pointer (some ⟨g, 0, none⟩), .agg (mk a.er), .agg (mk b.er)] w (Found g (put o (fault f a b)) w)
theorem ft_apart : FT 127 1 := fun a b I J o g w hg ha hb => apart_calls a b I J o _ g w hg ha hb rfl
theorem ft_twice : FT 128 2 := fun a b _ _ o g w hg _ _ => twice_calls a b o _ g w hg rfl
theorem ft_missed : FT 129 3 := fun a b I _ o g w hg _ hb => missed_calls a b I o _ g w hg hb rfl
theorem zeroV : (Try.prog.info? 114).map (fun i => i.zero) = some (some (.agg #[.slice none 0 0, .slice none 0 0])) := by kernel_rfl
theorem view_one (A B : Option Addr) (n c m d : Nat) : (#[.slice A n c, .slice B m d] : Array Value).all (·.oneCell') = true := Array.all_eq_true_iff_forall_mem.2 fun u hu => by
  have hu : u ∈ [Value.slice A n c, Value.slice B m d] := by simpa using hu
  simp only [List.mem_cons, List.not_mem_nil, or_false] at hu
  rcases hu with rfl | rfl <;> rfl
/-- A function value that is called is entered. -/
def FC (F : FuncId) : Prop := ∀ (x y z : Value) (w : World), (callFunc F #[x, y, z]).run Try.prog w = .ok (.enter F #[x, y, z]) w
theorem fc_apart : FC 127 := fun x y z w => by kernel_rfl
theorem fc_twice : FC 128 := fun x y z w => by kernel_rfl
theorem fc_missed : FC 129 := fun x y z w => by kernel_rfl
/-- What a view brings, all views so far. -/
def lateUp (l : List ViewD) (i : Nat) : Option Pair := least ((l.take i).flatMap fun v => lateOf v v.2.length)
theorem lateUp_succ (l : List ViewD) (i : Nat) (hi : i < l.length) : lateTo l[i].1 l[i].2 (lateUp l i) l[i].2.length = lateUp l (i + 1) := by
  unfold lateTo lateUp least
  rw [List.take_succ_eq_append_getElem hi, List.flatMap_append, List.foldl_append]
  simp [leastFrom]
theorem lateUp_all (l : List ViewD) : lateUp l l.length = late l := by unfold lateUp late; rw [List.take_length]
theorem look_found (l : List ViewD) (i : Nat) (hi : i < 3) (hn : ∀ j, j < i → pairs (j + 1) (allOwn l) = none) (p : Pair) (hp : pairs (i + 1) (allOwn l) = some p) : look l = ((1 : Int) + (i : Int), p.1, p.2) := by
  unfold look
  rcases i with _ | _ | _ | i
  · rw [hp]; rfl
  · rw [hn 0 (by omega), hp]; rfl
  · rw [hn 0 (by omega), hn 1 (by omega), hp]; rfl
  · omega
theorem look_late (l : List ViewD) (hn : ∀ j, j < 3 → pairs (j + 1) (allOwn l) = none) : look l = match late l with | some p => (4, p.1, p.2) | none => (0, 0, 0) := by
  unfold look
  rw [hn 0 (by omega), hn 1 (by omega), hn 2 (by omega)]
  rfl
set_option maxHeartbeats 8000000 in
set_option maxRecDepth 100000 in
/-- What is told of views. -/
theorem look_calls (A : Option Addr) (c : Nat) (l : List ViewD) (w : World) (h : Rep.Row viewRep (fun _ => True) w A l) (hl : l.length ≤ 1000) (hb : ∀ v ∈ l, v.1.length ≤ 1000) (p : Int × Int × Int) (hp : look l = p) :
    Calls Try.prog 73 #[.slice A l.length c] w fun r w' => r = .returned (.tuple #[.int .i64 p.1, .int .i64 p.2.1, .int .i64 p.2.2]) ∧ Hold (Below w.heap.size w w') := by
  have H : Hold (Rep.Row viewRep (fun k => k < w.heap.size) w A l) := ⟨h.move fun k _ hlt => ⟨hlt, rfl⟩⟩
  have HL := Hold.mk hl
  have HBd := Hold.mk hb
  have HP := Hold.mk hp
  have hm := h.len_le
  clear h hb hl hp
  go_enter Try.func73, Try.ntmps73
  go_upto_region 3 with (fail)
  go_loopw [5, 20] (fun v s wr => ∃ i : Nat, i ≤ l.length ∧ s = .int .i64 (i : Int) ∧ Hold (RO markRep 177 (fun k => k < w.heap.size) w wr v (allOwn (l.take i)))) (fun _ s _ => l.length - (intOf s).toNat)
  case atStart => exact ⟨0, by omega, rfl, ⟨RO.nil⟩⟩
  case round =>
    obtain ⟨i, hi, rfl, HO⟩ := hrel
    by_cases hlt : i < l.length
    · have l1 : (i : Int) < (l.length : Int) := by omega
      have hT : l.take (i + 1) = l.take i ++ [l[i]] := List.take_succ_eq_append_getElem hlt
      have hbd := HBd.out l[i] (List.getElem_mem hlt)
      have hPl := allOwn_len (l.take i) 1000 (fun v hv => HBd.out v (List.mem_of_mem_take hv))
      have hos := allOwn_snoc (l.take i) l[i]
      rw [← hT] at hos
      rw [List.length_take] at hPl
      obtain ⟨ad, p, rfl, rest⟩ : ∃ ad p, A = some ad ∧ ad.add (i * 2) = p ∧ ∃ A1 c1 B1 d1, p.block < wr.heap.size ∧ wr.cell? p = some (.slice A1 (l[i]).1.length c1) ∧ wr.cell? (p.add 1) = some (.slice B1 (l[i]).2.length d1) ∧ Rep.Row qeRep (fun k => k < w.heap.size) wr A1 (l[i]).1 := by
        obtain ⟨ad, p, A1, c1, B1, d1, e, hp, hpl, k0, k1, _, _, _, _, hr, _⟩ := row_view (H.out.below HO.out.bel) i hlt
        exact ⟨ad, p, e, hp, A1, c1, B1, d1, hpl, k0, k1, hr⟩
      obtain ⟨hp, A1, c1, B1, d1, hpl, k0, k1, hr⟩ := rest
      obtain ⟨v, hv⟩ : ∃ v, l[i] = v := ⟨_, rfl⟩
      rw [hv] at k0 k1 hr hos hbd
      obtain ⟨L, had⟩ := v
      have hQ := two_cells k0 k1
      have HMk : Hold (∀ W, Below wr.heap.size wr W → Calls Try.prog 126 #[.agg #[.slice A1 L.length c1, .slice B1 had.length d1]] W fun r w' => ∃ v, r = .returned v ∧ Hold (MO (fun k => k < w.heap.size) W w' v (own L))) := ⟨fun W hW => marks_calls A1 B1 c1 had.length d1 L _ W (fun k hk => Nat.lt_of_lt_of_le (Nat.lt_of_lt_of_le hk HO.out.bel.size) hW.size) (Rep.Row.below hr hW) (by have : L.length ≤ 1000 := hbd; omega)⟩
      obtain ⟨P, hP⟩ : ∃ P, allOwn (l.take i) = P := ⟨_, rfl⟩
      obtain ⟨Y, hY⟩ : ∃ Y, own L = Y := ⟨_, rfl⟩
      have hYl : Y.length ≤ 1000 := by rw [← hY]; have := own_len L; have : L.length ≤ 1000 := hbd; omega
      obtain ⟨Z, hZ⟩ : ∃ Z, P ++ Y = Z := ⟨_, rfl⟩
      have HOs : Hold (allOwn (l.take (i + 1)) = Z) := ⟨by rw [hos, hP, ← hZ, ← hY]⟩
      rw [hP] at HO hPl
      rw [hY] at HMk
      have HLn : Hold ((P.length + Y.length) * 88 ≤ 140737488355328) := ⟨by have := HL.out; have : min i l.length * 1000 ≤ 1000 * 1000 := Nat.mul_le_mul_right _ (by omega); omega⟩
      have HZ := Hold.mk hZ
      have hB0 := Bs.nil wr
      clear hT hbd hPl hos k0 k1 hr hP hY hYl hZ hv
      go_wp2_with (first
        | (with_reducible refine gateL 114 ?_; refine wpl_loadO isV rfl rfl hQ rfl ?_)
        | (with_reducible refine gateA 114 ?_; refine wpl_alloc zeroV hB0 rfl ?_; intro W2 gv hB; simp only [List.nil_append] at hB)
        | (with_reducible refine gateS 114 ?_; refine wpl_store (C' := #[.slice A1 L.length c1, .slice B1 had.length d1]) isV rfl rfl hB 0 rfl rfl rfl (view_one _ _ _ _ _ _) rfl ?_; intro W3 hB; simp only [List.set] at hB)
        | (with_reducible refine gateL 114 ?_; refine wpl_load isV rfl hB 0 rfl rfl rfl ?_)
        | (go_at_call 126; with_reducible refine (HMk.out _ hB.below).mono ?_; rintro r w1 ⟨v2, rfl, HY⟩; obtain ⟨A2, c2, rfl, _, hn2⟩ := HY.out.own.len_form; have HN2 := Hold.mk hn2; clear hn2; have HO1 := Hold.mk ((HO.out.below hB.below).below HY.out.bel))
        | (at_builtin; refine Rep.wp_more markRep rfl (.tmp 24) (.tmp 26) 166 177 (.agg (mk noER)) 88 rfl Try.underlying166 info_mk rfl (by decide) (by decide) w.heap.size (fun k => k < w.heap.size) (fun k => k < w.heap.size) u5 P Y Z A2 _ c2 rfl rfl rfl HZ.out HO1.out.own (own_rowV HY.out.own) (fun k hk _ => ⟨hk, fun h => by have h1 := (HO1.out.own.block_lt k h.symm).1; omega⟩) HN2.out HO1.out.bel.size HLn.out ?_; intro A3 c3 w3 HG))
      have ho := HO1.out.grown HG.out
      refine ⟨⟨i + 1, ?_, ?_, ?_⟩, ?_⟩
      · omega
      · go_num
      · rw [HOs.out]; exact ⟨ho⟩
      · simp only [intOf]; omega
    · obtain rfl : i = l.length := by omega
      rw [List.take_length] at HO
      obtain ⟨XA, xc, rfl, _, _⟩ := HO.out.form
      obtain ⟨X, hX⟩ : ∃ X, allOwn l = X := ⟨_, rfl⟩
      have hXl : X.length ≤ 1000000 := by rw [← hX]; have h1 := allOwn_len l 1000 HBd.out; have h2 := HL.out; have : l.length * 1000 ≤ 1000 * 1000 := Nat.mul_le_mul_right _ h2; omega
      have hXm : X.length ≤ 9223372036854775807 := by omega
      rw [hX] at HO ⊢
      have HX := Hold.mk hX
      clear hX hXl
      obtain ⟨fb, hfb⟩ : ∃ b, wr.heap.size = b := ⟨_, rfl⟩
      obtain ⟨W5, hW5⟩ : ∃ W, wr.alloc (.cells #[.func (.func 127) #[] #[], .func (.func 128) #[] #[], .func (.func 129) #[] #[]] 168) = W := ⟨_, rfl⟩
      have hal5 : Below wr.heap.size wr W5 := by rw [← hW5]; exact (Below.refl _ _).alloc (Nat.le_refl _) _
      have hb5 : W5.heap[fb]? = some (.cells #[.func (.func 127) #[] #[], .func (.func 128) #[] #[], .func (.func 129) #[] #[]] 168 (0, 0)) := by rw [← hW5, ← hfb]; exact Array.getElem?_push_size ..
      have hfbl : fb < W5.heap.size := (Array.getElem?_eq_some_iff.1 hb5).1
      have HFc : Hold (∀ i : Nat, i < 3 → ∃ F, W5.cell? ⟨fb, i, none⟩ = some (.func (.func F) #[] #[]) ∧ Hold (FT F (i + 1)) ∧ Hold (FC F)) := ⟨fun i hi => by
        rcases i with _ | _ | _ | i
        · exact ⟨_, cell_heap hb5 0, ⟨ft_apart⟩, ⟨fc_apart⟩⟩
        · exact ⟨_, cell_heap hb5 1, ⟨ft_twice⟩, ⟨fc_twice⟩⟩
        · exact ⟨_, cell_heap hb5 2, ⟨ft_missed⟩, ⟨fc_missed⟩⟩
        · omega⟩
      have HR5 : Hold (Rep.Row markRep (fun k => k < W5.heap.size) W5 XA X) := ⟨(HO.out.own.row.below hal5).move fun k hk hlt => ⟨hlt, rfl⟩⟩
      have HB5 : Hold (Below w.heap.size w W5) := ⟨HO.out.bel.trans (hal5.mono HO.out.bel.size)⟩
      have HFl : Hold (fb < W5.heap.size) := ⟨hfbl⟩
      go_upto_region 8 with (fail)
      clear hal5 hb5 hfbl HO hW5 hfb
      go_loopw [31] (fun s wr => ∃ i : Nat, i ≤ 3 ∧ s = .int .i64 (i : Int) ∧ Hold (∀ j, j < i → pairs (j + 1) X = none) ∧ Hold (Below W5.heap.size W5 wr)) (fun s _ => 3 - (intOf s).toNat)
      case atStart => exact ⟨0, by omega, rfl, ⟨fun j hj => by omega⟩, ⟨Below.refl _ _⟩⟩
      case round =>
        obtain ⟨i, hi, rfl, HNo, HB⟩ := hrel
        by_cases hi3 : i < 3
        · have l1 : (i : Int) < 3 := by omega
          have l1' : i < 3 := hi3
          obtain ⟨F, hF, HFT, HFC⟩ := HFc.out i hi3
          have fc := (below_cell HB.out (p := ⟨fb, i, none⟩) HFl.out).trans hF
          obtain ⟨g, hg⟩ : ∃ b, wr.heap.size = b := ⟨_, rfl⟩
          obtain ⟨W7, hW7⟩ : ∃ W, wr.alloc (.cells #[.int .i64 0, .int .i64 0, .bool false] 175) = W := ⟨_, rfl⟩
          have hal7 : Below wr.heap.size wr W7 := by rw [← hW7]; exact (Below.refl _ _).alloc (Nat.le_refl _) _
          have hb7 : W7.heap[g]? = some (.cells (fcells none) 175 (0, 0)) := by rw [← hW7, ← hg]; exact Array.getElem?_push_size ..
          have HB7 : Hold (Below W5.heap.size W5 W7) := ⟨HB.out.trans (hal7.mono HB.out.size)⟩
          have HR7 : Hold (Rep.Row markRep (fun k => k ≠ g) W7 XA X) := ⟨(HR5.out.below HB7.out).move fun k hk hlt => ⟨by have := HB.out.size; omega, rfl⟩⟩
          have HL7 : Hold (LI g W7 W7 (upto (i + 1) X 0)) := ⟨⟨hb7, Fr.refl _ _⟩⟩
          have HGs : Hold (W5.heap.size ≤ g) := ⟨by rw [← hg]; exact HB.out.size⟩
          go_upto_region 12 with (fail)
          clear hal7 hb7 fc hF hW7 hg
          go_loopw [40] (fun s wr => ∃ n : Nat, n ≤ X.length ∧ s = .int .i64 (n : Int) ∧ Hold (LI g W7 wr (upto (i + 1) X n))) (fun s _ => X.length - (intOf s).toNat)
          case atStart => exact ⟨0, by omega, rfl, HL7⟩
          case round =>
            obtain ⟨n, hn, rfl, HI⟩ := hrel
            by_cases hln : n < X.length
            · have l2 : (n : Int) < (X.length : Int) := by omega
              obtain ⟨ad, pt, rfl, hp, _, hQ, hF⟩ := row_mk (row_fr HR7.out HI.out.fr) n hln
              have hus := upto_succ (i + 1) X n hln
              obtain ⟨a, ha⟩ : ∃ a, X[n] = a := ⟨_, rfl⟩
              rw [ha] at hQ hF hus
              obtain ⟨o1, ho1⟩ : ∃ o1, upto (i + 1) X n = o1 := ⟨_, rfl⟩
              rw [ho1] at hus HI
              have HUs := Hold.mk hus
              obtain ⟨x, hx⟩ : ∃ x, a.er = x := ⟨_, rfl⟩
              rw [hx] at hQ
              have HXe := Hold.mk hx
              have HFa : Hold (QF (fun k => k ≠ g) wr a) := ⟨hF⟩
              have hB0 := Bs.nil wr
              clear hus ha ho1 hF hx
              go_upto_region 15 with (first
                | (with_reducible refine gateL 177 ?_; refine wpl_loadO isM rfl (mk_size x) hQ rfl ?_)
                | (with_reducible refine gateA 177 ?_; refine wpl_alloc zeroM hB0 rfl ?_; intro W2 gm hB; simp only [List.nil_append] at hB)
                | (with_reducible refine gateS 177 ?_; refine wpl_store (C' := mk x) isM rfl rfl hB 0 rfl (mk_size _) (mk_size _) (mk_one _) rfl ?_; intro W8 hB; simp only [List.set] at hB))
              have HGm : Hold (W8.heap[gm]? = some (.cells (mk x) 177 (0, 0)) ∧ gm ≠ g) := ⟨(hB.at_ 0 _ _ _ rfl).1, by have := (hB.at_ 0 _ _ _ rfl).2; have := HI.out.lt; omega⟩
              have HI8 : Hold (LI g W7 W8 o1) := ⟨HI.out.below hB.below⟩
              have HR8 : Hold (Rep.Row markRep (fun k => k ≠ g) W8 (some ad) X) := ⟨row_fr HR7.out HI8.out.fr⟩
              have HFa8 : Hold (QF (fun k => k ≠ g) W8 a) := ⟨HFa.out.below hB.below⟩
              have HL8 : Hold (LI g W8 W8 o1) := ⟨⟨HI8.out.blk, Fr.refl _ _⟩⟩
              clear hB0 hB hQ HFa HI
              go_loopw [46] (fun s wr => ∃ q : Nat, q ≤ X.length ∧ s = .int .i64 (q : Int) ∧ Hold (LI g W8 wr (leastFrom o1 ((X.take q).map (fault (i + 1) a))))) (fun s _ => X.length - (intOf s).toNat)
              case atStart => exact ⟨0, by omega, rfl, HL8⟩
              case round =>
                obtain ⟨q, hq, rfl, HJ⟩ := hrel
                by_cases hlq : q < X.length
                · have l3 : (q : Int) < (X.length : Int) := by omega
                  obtain ⟨ad', pt', hA', hp', _, hQ, hF⟩ := row_mk (row_fr HR8.out HJ.out.fr) q hlq
                  cases hA'
                  have hss := step_succ o1 (fault (i + 1) a) X q hlq
                  obtain ⟨b, hb⟩ : ∃ b, X[q] = b := ⟨_, rfl⟩
                  rw [hb] at hQ hF hss
                  obtain ⟨oq, hoq⟩ : ∃ oq, leastFrom o1 ((X.take q).map (fault (i + 1) a)) = oq := ⟨_, rfl⟩
                  rw [hoq] at hss HJ
                  have HSs := Hold.mk hss
                  obtain ⟨y, hy⟩ : ∃ y, b.er = y := ⟨_, rfl⟩
                  rw [hy] at hQ
                  have hB0 := Bs.nil wr
                  have HFb : Hold (QF (fun k => k ≠ g) wr b) := ⟨hF⟩
                  have HFa9 : Hold (QF (fun k => k ≠ g) wr a) := ⟨HFa8.out.move fun k hk hlt => ⟨hk, HJ.out.fr.block k hlt hk⟩⟩
                  have HCl : Hold (∀ W, Below wr.heap.size wr W → Calls Try.prog F #[.pointer (some ⟨g, 0, none⟩), .agg (mk x), .agg (mk y)] W (Found g (put oq (fault (i + 1) a b)) W)) := ⟨fun W hW => by
                    have := HFT.out a b (fun k => k ≠ g) (fun k => k ≠ g) oq g W (HJ.out.below hW).blk (HFa9.out.below hW) (HFb.out.below hW)
                    rw [HXe.out, hy] at this
                    exact this⟩
                  have hgm := (HJ.out.fr.block gm (Array.getElem?_eq_some_iff.1 HGm.out.1).1 HGm.out.2).trans HGm.out.1
                  clear hss hb hoq hF hy
                  have hcf : ∀ (x y z : Value) (w : World), (callFunc F #[x, y, z]).run Try.prog w = .ok (.enter F #[x, y, z]) w := HFC.out
                  go_wp2_with (first
                    | (with_reducible refine gateL 177 ?_; refine wpl_loadO isM rfl (mk_size y) hQ rfl ?_)
                    | (with_reducible refine gateA 177 ?_; refine wpl_alloc zeroM hB0 rfl ?_; intro W2 gn hB; simp only [List.nil_append] at hB)
                    | (with_reducible refine gateS 177 ?_; refine wpl_store (C' := mk y) isM rfl rfl hB 0 rfl (mk_size _) (mk_size _) (mk_one _) rfl ?_; intro W9 hB; simp only [List.set] at hB; have hm9 := (hB.below.block gm (Array.getElem?_eq_some_iff.1 hgm).1).trans hgm)
                    | (with_reducible refine gateL 177 ?_; refine wpl_loadH isM rfl hm9 (mk_size x) rfl ?_)
                    | (with_reducible refine gateL 177 ?_; refine wpl_load isM rfl hB 0 rfl (mk_size y) rfl ?_)
                    | (refine (HCl.out _ hB.below).mono ?_; rintro r w10 ⟨rfl, H10⟩))
                  refine ⟨⟨q + 1, ?_, ?_, ?_⟩, ?_⟩
                  · omega
                  · go_num
                  · rw [← HSs.out]; exact ⟨(HJ.out.below hB.below).found H10.out⟩
                  · simp only [intOf]; omega
                · obtain rfl : q = X.length := by omega
                  have HI9 : Hold (LI g W7 wr (upto (i + 1) X (n + 1))) := ⟨by
                    rw [← HUs.out]
                    exact ⟨HJ.out.blk, HI8.out.fr.trans HJ.out.fr (fun _ _ h => h)⟩⟩
                  go_wp2
                  refine ⟨⟨n + 1, ?_, ?_, HI9⟩, ?_⟩
                  · omega
                  · go_num
                  · simp only [intOf]; omega
            · obtain rfl : n = X.length := by omega
              rw [upto_all] at HI
              obtain ⟨o, ho⟩ : ∃ o, pairs (i + 1) X = o := ⟨_, rfl⟩
              rw [ho] at HI
              have HBe : Hold (Below W5.heap.size W5 wr) := ⟨below_frK HB7.out HI.out.fr HGs.out⟩
              have HBw : Hold (Below w.heap.size w wr) := ⟨HB5.out.trans (HBe.out.mono HB5.out.size)⟩
              have hz := HI.out.blk
              cases o with
              | none =>
                have f2 : wr.cell? ⟨g, 2, none⟩ = some (.bool false) := cell_heap hz 2
                have HNo2 : Hold (∀ j, j < i + 1 → pairs (j + 1) X = none) := ⟨fun j hj => by
                  by_cases h : j < i
                  · exact HNo.out j h
                  · have : j = i := by omega
                    rw [this]; exact ho⟩
                clear hz ho
                go_wp2
                refine ⟨⟨i + 1, ?_, ?_, HNo2, HBe⟩, ?_⟩
                · omega
                · go_num
                · simp only [intOf]; omega
              | some pr =>
                obtain ⟨r1, r2⟩ := pr
                have f0 : wr.cell? ⟨g, 0, none⟩ = some (.int .i64 r1) := cell_heap hz 0
                have f1 : wr.cell? ⟨g, 1, none⟩ = some (.int .i64 r2) := cell_heap hz 1
                have f2 : wr.cell? ⟨g, 2, none⟩ = some (.bool true) := cell_heap hz 2
                have hlk := look_found l i hi3 (by rw [HX.out]; exact HNo.out) (r1, r2) (by rw [HX.out]; exact ho)
                rw [HP.out] at hlk
                have hwr : IntKind.i64.wrap ((1 : Int) + (i : Int)) = 1 + (i : Int) := by rw [IntKind.wrap_i64]; omega
                have HLk := Hold.mk hlk
                clear hz ho hlk
                go_upto_region 21 with (fail)
                go_big_quiet (fail)
                go_wp2
                (try simp only [Exit.inBlock, Exit.then]); refine bodyPost_ret (results_tmp3 rfl _ _ _) rfl ?_
                exact ⟨by rw [HLk.out]; rfl, ⟨HBw.out.trans ((below_drewN _ _).mono HBw.out.size)⟩⟩
        · have l1 : ¬ (i : Int) < 3 := by omega
          have hlk := look_late l (by rw [HX.out]; exact fun j hj => HNo.out j (by omega))
          rw [HP.out] at hlk
          have HLk := Hold.mk hlk
          clear hlk
          obtain ⟨g, hg⟩ : ∃ b, wr.heap.size = b := ⟨_, rfl⟩
          obtain ⟨W7, hW7⟩ : ∃ W, wr.alloc (.cells #[.int .i64 0, .int .i64 0, .bool false] 175) = W := ⟨_, rfl⟩
          have hal7 : Below wr.heap.size wr W7 := by rw [← hW7]; exact (Below.refl _ _).alloc (Nat.le_refl _) _
          have hb7 : W7.heap[g]? = some (.cells (fcells none) 175 (0, 0)) := by rw [← hW7, ← hg]; exact Array.getElem?_push_size ..
          have HB7 : Hold (Below w.heap.size w W7) := ⟨HB5.out.trans ((HB.out.trans (hal7.mono HB.out.size)).mono HB5.out.size)⟩
          have HGs : Hold (w.heap.size ≤ g) := ⟨by rw [← hg]; exact Nat.le_trans HB5.out.size HB.out.size⟩
          have HR7 : Hold (Rep.Row viewRep (fun k => k ≠ g) W7 A l) := ⟨(H.out.below HB7.out).move fun k hk hlt => ⟨by have := HGs.out; omega, rfl⟩⟩
          have HL7 : Hold (LI g W7 W7 (lateUp l 0)) := ⟨⟨hb7, Fr.refl _ _⟩⟩
          go_upto_region 25 with (fail)
          clear hal7 hb7 hW7 hg
          go_loopw [78] (fun s wr => ∃ n : Nat, n ≤ l.length ∧ s = .int .i64 (n : Int) ∧ Hold (LI g W7 wr (lateUp l n))) (fun s _ => l.length - (intOf s).toNat)
          case atStart => exact ⟨0, by omega, rfl, HL7⟩
          case round =>
            obtain ⟨n, hn, rfl, HI⟩ := hrel
            by_cases hln : n < l.length
            · have l2 : (n : Int) < (l.length : Int) := by omega
              obtain ⟨ad, pt, A1, c1, B1, d1, rfl, hp, hpl, k0, k1, _, _, hd1, _, hr, hr'⟩ := row_view (row_fr HR7.out HI.out.fr) n hln
              have hbd := HBd.out l[n] (List.getElem_mem hln)
              have hus := lateUp_succ l n hln
              obtain ⟨v, hv⟩ : ∃ v, l[n] = v := ⟨_, rfl⟩
              rw [hv] at k0 k1 hd1 hr hr' hbd hus
              obtain ⟨L, had⟩ := v
              have hQ := two_cells k0 k1
              obtain ⟨o1, ho1⟩ : ∃ o1, lateUp l n = o1 := ⟨_, rfl⟩
              rw [ho1] at hus HI
              have HCl : Hold (∀ W, Below wr.heap.size wr W → Calls Try.prog 130 #[.pointer (some ⟨g, 0, none⟩), .agg #[.slice A1 L.length c1, .slice B1 had.length d1]] W (Found g (lateUp l (n + 1)) W)) := ⟨fun W hW => late_calls A1 B1 c1 d1 L had o1 _ g W (HI.out.below hW).blk (Rep.Row.below hr hW) (Rep.Row.below hr' hW) hd1 (by have : L.length ≤ 1000 := hbd; omega) hus⟩
              have hB0 := Bs.nil wr
              clear k0 k1 hd1 hr hr' hbd hus hv ho1
              go_wp2_with (first
                | (with_reducible refine gateL 114 ?_; refine wpl_loadO isV rfl rfl hQ rfl ?_)
                | (with_reducible refine gateA 114 ?_; refine wpl_alloc zeroV hB0 rfl ?_; intro W2 gv hB; simp only [List.nil_append] at hB)
                | (with_reducible refine gateS 114 ?_; refine wpl_store (C' := #[.slice A1 L.length c1, .slice B1 had.length d1]) isV rfl rfl hB 0 rfl rfl rfl (view_one _ _ _ _ _ _) rfl ?_; intro W3 hB; simp only [List.set] at hB)
                | (with_reducible refine gateL 114 ?_; refine wpl_load isV rfl hB 0 rfl rfl rfl ?_)
                | (go_at_call 130; (with_reducible refine (HCl.out _ hB.below).mono ?_); rintro r w10 ⟨rfl, H10⟩))
              refine ⟨⟨n + 1, ?_, ?_, ?_⟩, ?_⟩
              · omega
              · go_num
              · exact ⟨(HI.out.below hB.below).found H10.out⟩
              · simp only [intOf]; omega
            · obtain rfl : n = l.length := by omega
              rw [lateUp_all] at HI
              obtain ⟨o, ho⟩ : ∃ o, late l = o := ⟨_, rfl⟩
              rw [ho] at HI HLk
              have HBw : Hold (Below w.heap.size w wr) := ⟨below_frK HB7.out HI.out.fr HGs.out⟩
              have hz := HI.out.blk
              clear ho
              cases o with
              | none =>
                have f2 : wr.cell? ⟨g, 2, none⟩ = some (.bool false) := cell_heap hz 2
                clear hz
                go_wp2
                (try simp only [Exit.inBlock, Exit.then]); refine bodyPost_ret (results_tmp3 rfl _ _ _) rfl ?_
                exact ⟨by rw [HLk.out]; rfl, HBw⟩
              | some pr =>
                obtain ⟨r1, r2⟩ := pr
                have f0 : wr.cell? ⟨g, 0, none⟩ = some (.int .i64 r1) := cell_heap hz 0
                have f1 : wr.cell? ⟨g, 1, none⟩ = some (.int .i64 r2) := cell_heap hz 1
                have f2 : wr.cell? ⟨g, 2, none⟩ = some (.bool true) := cell_heap hz 2
                clear hz
                go_upto_region 30 with (fail)
                go_big_quiet (fail)
                go_wp2
                (try simp only [Exit.inBlock, Exit.then]); refine bodyPost_ret (results_tmp3 rfl _ _ _) rfl ?_
                exact ⟨by rw [HLk.out]; rfl, ⟨HBw.out.trans ((below_drewN _ _).mono HBw.out.size)⟩⟩
end Go.Proofs.Ytebhclgnpnlekaa.Chk
