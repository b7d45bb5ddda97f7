/- slices.Compact of commands, by its walk. -/
import Derived.Test.YtebhclgnpnlekaaPr2
import Derived.Lib.SliceRun
import Derived.Deep.Cut
namespace Go.Proofs.Ytebhclgnpnlekaa.Pr
open Go.RowKit Go.Proofs.Ytebhclgnpnlekaa.B Go.Proofs.Ytebhclgnpnlekaa.Cmd Go.Proofs.Ytebhclgnpnlekaa.Agg
open Go.Proofs.Ytebhclgnpnlekaa.Rd (zeroCmd)

/-- No two neighbours alike. -/
def dedP : Option CmdD → List CmdD → List CmdD
  | _, [] => []
  | p, x :: xs => if p = some x then dedP (some x) xs else x :: dedP (some x) xs
def ded (l : List CmdD) : List CmdD := dedP none l
theorem dedP_snoc : ∀ (t : List CmdD) (p : Option CmdD) (y x : CmdD), dedP p (t ++ [y] ++ [x]) = if y = x then dedP p (t ++ [y]) else dedP p (t ++ [y]) ++ [x]
  | [], p, y, x => by
    show dedP p [y, x] = if y = x then dedP p [y] else dedP p [y] ++ [x]
    simp only [dedP, Option.some.injEq]
    by_cases h : p = some y <;> by_cases h2 : y = x <;> simp [h, h2]
  | z :: t, p, y, x => by
    simp only [List.cons_append, dedP]
    rw [dedP_snoc t (some z) y x]
    by_cases h : p = some z <;> by_cases h2 : y = x <;> simp [h, h2]
theorem ded_succ {l : List CmdD} {k : Nat} (hk : k + 1 < l.length) (h : l[k] ≠ l[k + 1]) : ded (l.take (k + 2)) = ded (l.take (k + 1)) ++ [l[k + 1]] := by
  rw [List.take_succ_eq_append_getElem hk, List.take_succ_eq_append_getElem (by omega), ded, dedP_snoc, if_neg h, ← List.take_succ_eq_append_getElem (by omega)]
  rfl
theorem ded_same {l : List CmdD} {k : Nat} (hk : k + 1 < l.length) (h : l[k] = l[k + 1]) : ded (l.take (k + 2)) = ded (l.take (k + 1)) := by
  rw [List.take_succ_eq_append_getElem hk, List.take_succ_eq_append_getElem (by omega), ded, dedP_snoc, if_pos h, ← List.take_succ_eq_append_getElem (by omega)]
  rfl
theorem ded_short {l : List CmdD} (h : l.length < 2) : ded l = l := by
  match l, h with
  | [], _ => rfl
  | [x], _ => rfl
/-! ### The block -/
def flatC (xs : List CmdD) : List Value := xs.flatMap CmdD.cells
theorem flatC_len : ∀ xs : List CmdD, (flatC xs).length = xs.length * 7
  | [] => rfl
  | x :: xs => by
    show (CmdD.cells x ++ flatC xs).length = _
    rw [List.length_append, flatC_len xs]
    simp
    omega
theorem flatC_app (xs ys : List CmdD) : flatC (xs ++ ys) = flatC xs ++ flatC ys := by simp [flatC]
theorem flatC_cons (x : CmdD) (xs : List CmdD) : flatC (x :: xs) = CmdD.cells x ++ flatC xs := rfl
theorem flatC_at (xs : List CmdD) (i : Nat) (hi : i < xs.length) : flatC xs = flatC (xs.take i) ++ (CmdD.cells xs[i] ++ flatC (xs.drop (i + 1))) := by
  rw [← flatC_cons, ← List.drop_eq_getElem_cons hi, ← flatC_app, List.take_append_drop]
theorem flatC_cell (xs : List CmdD) (i : Nat) (hi : i < xs.length) (j : Nat) (hj : j < 7) : (flatC xs)[i * 7 + j]? = (CmdD.cells xs[i])[j]? := by
  have hl : (flatC (xs.take i)).length = i * 7 := by rw [flatC_len, List.length_take, Nat.min_eq_left (by omega)]
  rw [flatC_at xs i hi, List.getElem?_append_right (by omega), hl, List.getElem?_append_left (by show _ < 7; omega)]
  congr 1; omega
/-- A row in a block of the call's own, and what lies behind it. -/
structure CpAt (w0 w : World) (b c : Nat) (xs : List CmdD) (rest : List Value) : Prop where
  bs : Bs w0 w [(b, 45, (flatC xs ++ rest).toArray)]
  size : xs.length * 7 + rest.length = c * 7
  cap : c ≤ maxLen
  wf : ∀ x ∈ xs, x.wf
theorem CpAt.len {w0 w : World} {b c : Nat} {xs : List CmdD} {rest : List Value} (h : CpAt w0 w b c xs rest) : xs.length ≤ c := by have := h.size; omega
theorem CpAt.cellv {w0 w : World} {b c : Nat} {xs : List CmdD} {rest : List Value} (h : CpAt w0 w b c xs rest) (i : Nat) (hi : i < xs.length) (j : Nat) (hj : j < 7) : w.cell? ⟨b, i * 7 + j, none⟩ = (CmdD.cells xs[i])[j]? := by
  rw [h.bs.cell 0 rfl, List.getElem?_toArray, List.getElem?_append_left (by rw [flatC_len]; omega), flatC_cell xs i hi j hj]
theorem add0 (b m o : Nat) : (⟨b, o, none⟩ : Addr).add m = ⟨b, o + m, none⟩ := by unfold Addr.add; split <;> simp_all
theorem CpAt.row {w0 w : World} {b c : Nat} {xs : List CmdD} {rest : List Value} (h : CpAt w0 w b c xs rest) : Rep.Row cmdRep (fun _ => True) w (some ⟨b, 0, none⟩) xs := by
  refine ⟨Nat.le_trans h.len h.cap, fun h0 => ⟨_, rfl, trivial, h.bs.lt 0 rfl, fun i x hx => ⟨x.cells, ⟨rfl, ?_⟩, fun j u hu => ?_⟩⟩⟩
  · exact h.wf x (List.mem_of_getElem? hx)
  · obtain ⟨hi, rfl⟩ := List.getElem?_eq_some_iff.1 hx
    have hj : j < 7 := (List.getElem?_eq_some_iff.1 hu).1
    rw [add0, Nat.zero_add]
    show w.cell? ⟨b, i * 7 + j, none⟩ = _
    rw [h.cellv i hi j hj, hu]
theorem CpAt.own {w0 w : World} {b c : Nat} {xs : List CmdD} {rest : List Value} (h : CpAt w0 w b c xs rest) : CO w0 w (.slice (some ⟨b, 0, none⟩) xs.length c) xs := by
  have hb := h.bs.at_ 0 b _ _ rfl
  refine ⟨⟨flatC xs, ⟨by rw [flatC_len]; rfl, .inr ⟨b, c, _, rfl, hb.2, hb.1, h.len, h.cap, ?_, ?_⟩⟩, fun i x hx => ⟨x.cells, ⟨rfl, h.wf x (List.mem_of_getElem? hx)⟩, fun j u hu => ?_⟩⟩, h.bs.below⟩
  · rw [List.size_toArray, List.length_append, flatC_len]; exact h.size
  · show (flatC xs ++ rest).take (xs.length * 7) = _
    rw [List.take_append_of_le_length (by rw [flatC_len]; omega), List.take_of_length_le (by rw [flatC_len]; omega)]
  · obtain ⟨hi, rfl⟩ := List.getElem?_eq_some_iff.1 hx
    have hj : j < 7 := (List.getElem?_eq_some_iff.1 hu).1
    show (flatC xs)[i * 7 + j]? = _
    rw [flatC_cell xs i hi j hj, hu]
theorem CpAt.drewN {w0 w : World} {b c : Nat} {xs : List CmdD} {rest : List Value} (h : CpAt w0 w b c xs rest) (n : Nat) : CpAt w0 (w.drewN n) b c xs rest := ⟨h.bs.drewN n, h.size, h.cap, h.wf⟩
/-- The end of a row is no longer of it. -/
theorem CpAt.cut {w0 w : World} {b c : Nat} {xs : List CmdD} {rest : List Value} (h : CpAt w0 w b c xs rest) (m : Nat) (hm : m ≤ xs.length) : CpAt w0 w b c (xs.take m) (flatC (xs.drop m) ++ rest) := by
  refine ⟨?_, ?_, h.cap, fun x hx => h.wf x (List.mem_of_mem_take hx)⟩
  · have := h.bs
    rwa [← List.append_assoc, ← flatC_app, List.take_append_drop]
  · rw [List.length_append, flatC_len, List.length_drop, List.length_take, Nat.min_eq_left hm]
    have := h.size; omega
/-- clear: the cells hold the zero value. -/
theorem run_clear (P : Program) (w : World) (t e T : TypeId) (Z : Array Value) (ht : P.underlying t = some (.slice e)) (hv : ∀ w, (zeroValue e).run P w = .ok (.agg Z) w) (h1 : ∀ u ∈ Z.toList, u.oneCell' = true) (b o n c : Nat) (cur : Array Value) (hn : 0 < n)
    (hb : w.heap[b]? = some (.cells cur T (0, 0))) (hs : o + n * Z.size ≤ cur.size) :
    ∃ vs : List Value, vs.length = n * Z.size ∧ ∀ ty, (Builtin.clear_ #[t] ty #[.slice (some ⟨b, o, none⟩) n c]).run P w = .ok (.tuple #[]) (w.setRow b (cur.toList.take o ++ vs ++ cur.toList.drop (o + vs.length)).toArray) := by
  have hzl : (Builtin.zeroCells Z n).toList.length = n * Z.size := by simp [Builtin.zeroCells, Array.size_flatten]
  have hst := run_storeCells_at (P := P) b o T (Builtin.zeroCells Z n).toList 0 cur w hb (by omega) (by
    intro v hv
    refine h1 v ?_
    simp [Builtin.zeroCells] at hv
    obtain ⟨i, hi, rfl⟩ := hv
    have hp : 0 < Z.size := by
      rcases Nat.eq_zero_or_pos Z.size with h | h
      · rw [h] at hi; omega
      · exact h
    rw [getElem!_pos Z _ (Nat.mod_lt _ hp)]
    simp)
  simp only [Nat.add_zero] at hst
  refine ⟨(Builtin.zeroCells Z n).toList, hzl, fun ty => ?_⟩
  obtain ⟨m, rfl⟩ : ∃ m, n = m + 1 := ⟨n - 1, by omega⟩
  simp [Builtin.clear_, run_underlying ht, hv, Value.cells, hst]
theorem zero_run (w : World) : (zeroValue 45).run Try.prog w = .ok (.agg (arr zeroCmd)) w := by
  have h := zeroC
  cases hq : Try.prog.info? 45 with
  | none => rw [hq] at h; simp at h
  | some i =>
    rw [hq] at h
    have hz : i.zero = some (.agg (arr zeroCmd)) := by simpa using h
    simp [zeroValue, typeInfo, hq, hz]
/-- One element of the row, written. -/
theorem flat_put (D L : List CmdD) (rest : List Value) (x y : CmdD) (o : Nat) (ho : o = D.length * 7) :
    (((flatC (D ++ y :: L) ++ rest).toArray.toList.take o ++ (arr x).toList ++ (flatC (D ++ y :: L) ++ rest).toArray.toList.drop (o + 7)).toArray) = (flatC (D ++ x :: L) ++ rest).toArray := by
  subst ho
  have e : flatC (D ++ y :: L) ++ rest = flatC D ++ (CmdD.cells y ++ (flatC L ++ rest)) := by rw [flatC_app, flatC_cons]; simp [List.append_assoc]
  have e' : flatC (D ++ x :: L) ++ rest = flatC D ++ (CmdD.cells x ++ (flatC L ++ rest)) := by rw [flatC_app, flatC_cons]; simp [List.append_assoc]
  have hl := flatC_len D
  congr 1
  simp only [List.toList_toArray]
  rw [e, e', List.take_append_of_le_length (by omega), List.take_of_length_le (by omega), List.drop_append, List.drop_of_length_le (by omega), hl, show D.length * 7 + 7 - D.length * 7 = 7 by omega]
  simp [List.append_assoc]
/-- One written: the row that it leaves. -/
theorem cp_put {w0 w' : World} {b c : Nat} {D L : List CmdD} {x y : CmdD} {rest : List Value} {C : Array Value} (hC : C = (flatC (D ++ x :: L) ++ rest).toArray) (hb : Bs w0 w' [(b, 45, C)]) (hs : (D ++ y :: L).length * 7 + rest.length = c * 7) (hc : c ≤ maxLen) (hw : ∀ z ∈ D ++ y :: L, z.wf) (hx : x.wf) : CpAt w0 w' b c (D ++ x :: L) rest := by
  subst hC
  refine ⟨hb, by simpa using hs, hc, fun z hz => ?_⟩
  rcases List.mem_append.1 hz with h | h
  · exact hw z (List.mem_append_left _ h)
  · rcases List.mem_cons.1 h with rfl | h
    · exact hx
    · exact hw z (List.mem_append_right _ (List.mem_cons_of_mem _ h))
/-- The cells of one of the row. -/
theorem CpAt.one {w0 w : World} {b c : Nat} {xs : List CmdD} {rest : List Value} (h : CpAt w0 w b c xs rest) (m k : Nat) (hm : m = k * 7) (hi : k < xs.length) (x : CmdD) (hx : xs[k] = x) : CmdAt w ⟨b, m, none⟩ x := by
  subst hx hm
  refine ⟨?_, ?_, ?_, ?_, ?_, ?_, ?_, h.wf _ (List.getElem_mem _)⟩
  · exact h.cellv k hi 0 (by decide)
  · exact h.cellv k hi 1 (by decide)
  · exact h.cellv k hi 2 (by decide)
  · exact h.cellv k hi 3 (by decide)
  · exact h.cellv k hi 4 (by decide)
  · exact h.cellv k hi 5 (by decide)
  · exact h.cellv k hi 6 (by decide)
theorem drop_len_cons {l : List CmdD} {m : Nat} (hm : m < l.length) : l.drop m = l[m] :: l.drop (m + 1) := List.drop_eq_getElem_cons hm
/-- Behind the part that is written already, the row is as it was. -/
theorem get_behind {D l : List CmdD} {k : Nat} (hD : D.length ≤ k) (hk : k < l.length) : ∃ h : k < (D ++ l.drop D.length).length, (D ++ l.drop D.length)[k] = l[k] := by
  have h : k < (D ++ l.drop D.length).length := by rw [List.length_append, List.length_drop]; omega
  refine ⟨h, ?_⟩
  rw [List.getElem_append_right hD, List.getElem_drop]
  congr 1; omega
theorem arr_one' (c : CmdD) : ∀ u ∈ (arr c).toList, u.oneCell' = true := fun u hu => Array.all_eq_true_iff_forall_mem.1 (arr_one c) u (by simpa using hu)
theorem CpAt.room {w0 w : World} {b c : Nat} {D L : List CmdD} {z : CmdD} {rest : List Value} (_ : CpAt w0 w b c (D ++ z :: L) rest) {m : Nat} (hm : D.length = m) : m * 7 + 7 ≤ (flatC (D ++ z :: L) ++ rest).toArray.size := by
  rw [List.size_toArray, List.length_append, flatC_len, List.length_append, List.length_cons]; omega
theorem cp_clear {w0 w : World} {b c : Nat} {D E : List CmdD} {rest vs : List Value} (h : CpAt w0 w b c (D ++ E) rest) (hv : vs.length = E.length * 7) :
    ∃ r, CpAt w0 (w.setRow b ((flatC (D ++ E) ++ rest).toArray.toList.take (D.length * 7) ++ vs ++ (flatC (D ++ E) ++ rest).toArray.toList.drop (D.length * 7 + vs.length)).toArray) b c D r := by
  have hl := flatC_len D
  have hle := flatC_len E
  have e : (flatC (D ++ E) ++ rest).toArray.toList.take (D.length * 7) ++ vs ++ (flatC (D ++ E) ++ rest).toArray.toList.drop (D.length * 7 + vs.length) = flatC D ++ (vs ++ rest) := by
    rw [List.toList_toArray, flatC_app, List.append_assoc (flatC D), List.take_append_of_le_length (by omega), List.take_of_length_le (by omega), hv, List.drop_append, List.drop_of_length_le (by omega), hl, show D.length * 7 + E.length * 7 - D.length * 7 = (flatC E).length + 0 by omega, List.drop_append]
    simp
  rw [e]
  refine ⟨vs ++ rest, h.bs.put (i := 0) rfl (fr_setRow w b _) (setRow_heap w b _ _ _ (0, 0) (h.bs.at_ 0 b _ _ rfl).1), ?_, h.cap, fun x hx => h.wf x (List.mem_append_left _ hx)⟩
  have := h.size
  rw [List.length_append] at this
  rw [List.length_append, hv]; omega
set_option maxHeartbeats 8000000 in
set_option maxRecDepth 100000 in
theorem compact_calls (b c : Nat) (l : List CmdD) (rest : List Value) (w0 w : World) (h : CpAt w0 w b c l rest) (hl : l.length ≤ 1000000) :
    Calls Try.prog 92 #[.slice (some ⟨b, 0, none⟩) l.length c] w fun e w' => e = .returned (.slice (some ⟨b, 0, none⟩) (ded l).length c) ∧ Hold (CO w0 w' (.slice (some ⟨b, 0, none⟩) (ded l).length c) (ded l)) := by
  have H := Hold.mk h
  have HL := Hold.mk hl
  have hcm : l.length ≤ c := h.len
  have hcx : (c : Int) ≤ 9223372036854775807 := by have := h.cap; simp only [maxLen] at this; omega
  clear h
  by_cases h2 : l.length < 2
  · have HD := Hold.mk (ded_short h2)
    have hlz : (l.length : Int) < 2 := by omega
    clear h2
    go_enter Try.func92, Try.ntmps92
    go_wp2
    go_ret
    exact ⟨by rw [HD.out]; rfl, ⟨by rw [HD.out]; exact H.out.own⟩⟩
  · have hlz : ¬ (l.length : Int) < 2 := by omega
    go_enter Try.func92, Try.ntmps92
    go_wp2
    go_loopw [3] (fun s wr => ∃ k i : Nat, Hold (k = i + 1) ∧ k ≤ l.length ∧ s = .int .i64 (k : Int) ∧ Hold (ded (l.take k) = l.take k) ∧ Hold (CpAt w0 wr b c l rest)) (fun s _ => l.length - (intOf s).toNat)
    case atStart => exact ⟨1, 0, ⟨rfl⟩, by omega, rfl, ⟨ded_short (by rw [List.length_take]; omega)⟩, H⟩
    case round =>
      obtain ⟨k, i, HK, hk, rfl, HD, HC⟩ := hrel
      have hki : (k : Int) - 1 = (i : Int) := by have := HK.out; omega
      have hil : i < k := by have := HK.out; omega
      by_cases hlt : k < l.length
      · have l1 : (k : Int) < (l.length : Int) := by omega
        have l2 : (i : Int) < (l.length : Int) := by omega
        obtain ⟨x, hx⟩ : ∃ x, l[k] = x := ⟨_, rfl⟩
        obtain ⟨y, hy⟩ : ∃ x, l[i] = x := ⟨_, rfl⟩
        obtain ⟨c0, c1, c2, c3, c4, c5, c6, _⟩ := HC.out.one (k * 7) k rfl hlt x hx
        obtain ⟨d0, d1, d2, d3, d4, d5, d6, _⟩ := HC.out.one (i * 7) i rfl (by omega) y hy
        have HX := Hold.mk hx
        have HY := Hold.mk hy
        clear hx hy
        by_cases hxy : x = y
        · have HS : Hold (ded (l.take (k + 1)) = l.take k) := ⟨by
            obtain rfl := HK.out
            have := ded_same (l := l) (k := i) hlt (by rw [HX.out, HY.out, hxy])
            rw [this, HD.out]⟩
          subst hxy
          have s2 := fun W => Rep.run_cut_from (P := Try.prog) 23 45 .i64 Try.underlying23 size_cmd (some ⟨b, 0, none⟩) l.length c (k : Int) (by omega) (by omega) W
          have e1 : Rep.cutAddr (some ⟨b, 0, none⟩) c k 7 = some ⟨b, k * 7, none⟩ := by unfold Rep.cutAddr; rw [if_neg (by omega), Option.map_some, add0, Nat.zero_add]
          rw [Int.toNat_natCast, e1] at s2
          clear e1
          go_wp2
          go_quiet (fail)
          have HC1 := Hold.mk (HC.out.drewN nq)
          obtain ⟨w2, hw2⟩ : ∃ w2, wr.drewN nq = w2 := ⟨_, rfl⟩
          rw [hw2] at HC1
          rw [hw2]
          obtain ⟨r, hr⟩ : ∃ r, l.length - k = r := ⟨_, rfl⟩
          rw [hr] at s2
          have hrk : k + r = l.length := by omega
          clear hw2 c0 c1 c2 c3 c4 c5 c6 d0 d1 d2 d3 d4 d5 d6 hr
          go_wp2
          clear s2
          go_loopw [3, 5] (fun s t wr => ∃ j j' m : Nat, ∃ D : List CmdD, Hold (j = j' + 1) ∧ j ≤ r ∧ t = .int .i64 (j : Int) ∧ s = .int .i64 (m : Int) ∧ Hold (D.length = m) ∧ m ≤ k + j' ∧ Hold (ded (l.take (k + j)) = D) ∧ Hold (CpAt w0 wr b c (D ++ l.drop m) rest)) (fun _ t _ => r - (intOf t).toNat)
          case atStart => exact ⟨1, 0, k, l.take k, ⟨rfl⟩, by omega, rfl, rfl, ⟨by rw [List.length_take]; omega⟩, by omega, HS, ⟨by rw [List.take_append_drop]; exact HC1.out⟩⟩
          case round =>
            clear HC HC1 HD HS HX HY hki hil l1 l2
            obtain ⟨j, j', m, D, HJ, hj, rfl, rfl, HM, hmk, HD, HC⟩ := hrel
            have hki : (j : Int) - 1 = (j' : Int) := by have := HJ.out; omega
            have hjj : j = j' + 1 := HJ.out
            have hmm : m ≤ k + j' := hmk
            by_cases hjr : j < r
            · have l1 : (j : Int) < (r : Int) := by omega
              have l2 : (j' : Int) < (r : Int) := by omega
              have l3 : (m : Int) < (l.length : Int) := by omega
              obtain ⟨x, hx⟩ : ∃ x, l[k + j]'(by omega) = x := ⟨_, rfl⟩
              obtain ⟨y, hy⟩ : ∃ x, l[k + j']'(by omega) = x := ⟨_, rfl⟩
              obtain ⟨g1, g2⟩ := get_behind (D := D) (l := l) (k := k + j) (by rw [HM.out]; omega) (by omega)
              obtain ⟨g3, g4⟩ := get_behind (D := D) (l := l) (k := k + j') (by rw [HM.out]; omega) (by omega)
              have HC' := HC.out
              rw [← HM.out] at HC'
              have hxw : x.wf := by rw [← hx, ← g2]; exact HC'.wf _ (List.getElem_mem _)
              obtain ⟨c0, c1, c2, c3, c4, c5, c6, _⟩ := HC'.one (k * 7 + j * 7) (k + j) (by omega) g1 x (g2.trans hx)
              obtain ⟨d0, d1, d2, d3, d4, d5, d6, _⟩ := HC'.one (k * 7 + j' * 7) (k + j') (by omega) g3 y (g4.trans hy)
              have HX := Hold.mk hx
              have HY := Hold.mk hy
              have HW := Hold.mk hxw
              clear hx hy g1 g2 g3 g4 HC' hxw hjj
              by_cases hxy : x = y
              · have HS : Hold (ded (l.take (k + (j + 1))) = D) := ⟨by
                  obtain rfl := HJ.out
                  have := ded_same (l := l) (k := k + j') (by omega) (by rw [HY.out]; exact hxy.symm.trans HX.out.symm)
                  exact this.trans HD.out⟩
                subst hxy
                go_wp2
                go_quiet (fail)
                go_wp2
                exact ⟨⟨j + 1, j, m, D, ⟨rfl⟩, by omega, by go_num, rfl, HM, by have := HJ.out; omega, HS, ⟨HC.out.drewN _⟩⟩, by simp [intOf]; omega⟩
              · have HS : Hold (ded (l.take (k + (j + 1))) = D ++ [x]) := ⟨by
                  obtain rfl := HJ.out
                  have := ded_succ (l := l) (k := k + j') (by omega) (by rw [HY.out]; exact fun e => hxy (e.trans HX.out).symm)
                  refine this.trans ?_
                  rw [← HX.out]
                  congr 1
                  exact HD.out⟩
                have hf := Rd.CmdD.first hxy
                obtain ⟨z, L, HL2, HL3⟩ : ∃ z L, Hold (l.drop m = z :: L) ∧ Hold (l.drop (m + 1) = L) := ⟨_, _, ⟨drop_len_cons (by omega)⟩, ⟨rfl⟩⟩
                clear hxy
                rcases hf with b0 | ⟨b0, b1⟩ | ⟨b0, b1, b2⟩ | ⟨b0, b1, b2, b3⟩ | ⟨b0, b1, b2, b3, b4⟩ | ⟨b0, b1, b2, b3, b4, b5⟩ | ⟨b0, b1, b2, b3, b4, b5, b6⟩
                all_goals
                  go_wp2
                  go_quiet (fail)
                  have HC2 := HC.out.drewN nq
                  rw [HL2.out] at HC2
                  have hB := HC2.bs
                  have HC3 := Hold.mk HC2
                  clear HC2
                  have HR2 : Hold (m * 7 + 7 ≤ (flatC (D ++ z :: L) ++ rest).toArray.size) := ⟨HC3.out.room HM.out⟩
                  go_wp2_with (with_reducible refine gateS 45 ?_; refine wpl_storeF (V := arr x) (C' := (flatC (D ++ x :: L) ++ rest).toArray) (o := m * 7) (m := 7) size_cmd rfl rfl rfl hB 0 rfl rfl HR2.out (arr_one' x) (flat_put D L rest x z _ (by rw [HM.out])) rfl ?_; intro W2 hB2; simp only [List.set] at hB2)
                  have HC4 : Hold (CpAt w0 W2 b c ((D ++ [x]) ++ l.drop (m + 1)) rest) := ⟨by rw [HL3.out, List.append_assoc]; exact cp_put rfl hB2 HC3.out.size HC3.out.cap HC3.out.wf HW.out⟩
                  exact ⟨⟨j + 1, j, m + 1, D ++ [x], ⟨rfl⟩, by omega, by go_num, by go_num, ⟨by rw [List.length_append, HM.out]; rfl⟩, by have := HJ.out; omega, HS, HC4⟩, by simp [intOf]; omega⟩
            · obtain rfl : j = r := by omega
              have hmc : m < l.length := by omega
              have s4 := fun W => Rep.run_cut_from (P := Try.prog) 23 45 .i64 Try.underlying23 size_cmd (some ⟨b, 0, none⟩) l.length c (m : Int) (by omega) (by omega) W
              have e1 : Rep.cutAddr (some ⟨b, 0, none⟩) c m 7 = some ⟨b, m * 7, none⟩ := by unfold Rep.cutAddr; rw [if_neg (by omega), Option.map_some, add0, Nat.zero_add]
              have s5 := fun W => Rep.run_cut_to (P := Try.prog) 23 45 .i64 Try.underlying23 size_cmd (some ⟨b, 0, none⟩) l.length c (m : Int) (by omega) (by omega) W
              rw [Int.toNat_natCast, e1] at s4
              rw [Int.toNat_natCast] at s5
              have HCr := HC.out
              rw [← HM.out] at HCr
              have hz : (flatC (D ++ l.drop D.length) ++ rest).toArray.size = (D.length + (l.length - D.length)) * 7 + rest.length := by rw [List.size_toArray, List.length_append, flatC_len, List.length_append, List.length_drop]
              obtain ⟨vs, hv1, hv2⟩ := run_clear Try.prog wr 23 45 45 (arr zeroCmd) Try.underlying23 zero_run (arr_one' _) b (m * 7) (l.length - m) (c - m) _ (by omega) (HCr.bs.at_ 0 b _ _ rfl).1 (by rw [hz, HM.out, arr_size]; omega)
              rw [arr_size] at hv1
              rw [HM.out] at HCr hv2
              obtain ⟨rs, hrs⟩ := cp_clear (vs := vs) HC.out (by rw [hv1, List.length_drop])
              rw [HM.out] at hrs
              have HDl : Hold (ded l = D) := ⟨by have := HD.out; rwa [hrk, List.take_length] at this⟩
              obtain ⟨W9, hW9⟩ : ∃ W, wr.setRow b ((flatC (D ++ l.drop m) ++ rest).toArray.toList.take (m * 7) ++ vs ++ (flatC (D ++ l.drop m) ++ rest).toArray.toList.drop (m * 7 + vs.length)).toArray = W := ⟨_, rfl⟩
              rw [hW9] at hv2 hrs
              have HRS := Hold.mk hrs
              clear hrs HCr e1 hW9 hz
              go_wp2
              go_ret
              exact ⟨by rw [HDl.out, HM.out]; rfl, ⟨by rw [HDl.out, HM.out]; have := HRS.out.own; rwa [HM.out] at this⟩⟩
        · have HS : Hold (ded (l.take (k + 1)) = l.take (k + 1)) := ⟨by
            obtain rfl := HK.out
            have := ded_succ (l := l) (k := i) hlt (by rw [HX.out, HY.out]; exact fun e => hxy e.symm)
            rw [this, HD.out, List.take_succ_eq_append_getElem hlt]⟩
          have hf := Rd.CmdD.first hxy
          clear hxy
          rcases hf with b0 | ⟨b0, b1⟩ | ⟨b0, b1, b2⟩ | ⟨b0, b1, b2, b3⟩ | ⟨b0, b1, b2, b3, b4⟩ | ⟨b0, b1, b2, b3, b4, b5⟩ | ⟨b0, b1, b2, b3, b4, b5, b6⟩
          all_goals
            go_wp2
            go_quiet (fail)
            go_wp2
            exact ⟨⟨k + 1, k, ⟨rfl⟩, by omega, by go_num, HS, ⟨HC.out.drewN _⟩⟩, by simp [intOf]; omega⟩
      · obtain rfl : k = l.length := by omega
        have HDl : Hold (ded l = l) := ⟨by have := HD.out; rwa [List.take_length] at this⟩
        go_wp2
        go_ret
        exact ⟨by rw [HDl.out]; rfl, ⟨by rw [HDl.out]; exact HC.out.own⟩⟩
end Go.Proofs.Ytebhclgnpnlekaa.Pr
