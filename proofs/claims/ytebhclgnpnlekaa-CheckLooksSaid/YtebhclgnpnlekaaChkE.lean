/- The document's less, apart, twice, missed of chapter 21, by their walks. No condition. -/
import Derived.Test.YtebhclgnpnlekaaChkV
namespace Go.Proofs.Ytebhclgnpnlekaa.Chk
open Go.RowKit Go.Proofs.Ytebhclgnpnlekaa.B Go.Proofs.Ytebhclgnpnlekaa.Cmd Go.Proofs.Ytebhclgnpnlekaa.Agg Go.Proofs.Ytebhclgnpnlekaa.Ent Go.Proofs.Ytebhclgnpnlekaa.Ord
open Go.Proofs.Ytebhclgnpnlekaa.Rd (CmdD.first)
def pc (p : Pair) : Array Value := #[.int .i64 p.1, .int .i64 p.2]
set_option maxHeartbeats 4000000 in
set_option maxRecDepth 100000 in
theorem less_calls' (x1 x2 y1 y2 : Int) (n : Bool) (w : World) (b : Bool) (hb : (n || lessP (x1, x2) (y1, y2)) = b) :
    Calls Try.prog 156 #[.agg #[.int .i64 x1, .int .i64 x2], .agg #[.int .i64 y1, .int .i64 y2], .bool n] w fun r w' => r = .returned (.bool b) ∧ Hold (Below w.heap.size w w') := by
  obtain ⟨h1, hh1⟩ : ∃ b, w.heap.size = b := ⟨_, rfl⟩
  obtain ⟨h2, hh2⟩ : ∃ b, h1 + 1 = b := ⟨_, rfl⟩
  obtain ⟨W, hW⟩ : ∃ W, (w.alloc (.cells #[.int .i64 x1, .int .i64 x2] 172)).alloc (.cells #[.int .i64 y1, .int .i64 y2] 172) = W := ⟨_, rfl⟩
  have hB : Bs w W [(h1, 172, #[.int .i64 x1, .int .i64 x2]), (h2, 172, #[.int .i64 y1, .int .i64 y2])] := by
    have h1 := ((Bs.nil w).alloc #[.int .i64 x1, .int .i64 x2] 172).alloc #[.int .i64 y1, .int .i64 y2] 172
    rw [hW] at h1
    simpa [hh1, hh2] using h1
  have HBl := Hold.mk hB.below
  have a0 : W.cell? ⟨h1, 0, none⟩ = some (.int .i64 x1) := hB.cell 0 rfl 0
  have a1 : W.cell? ⟨h1, 1, none⟩ = some (.int .i64 x2) := hB.cell 0 rfl 1
  have b0 : W.cell? ⟨h2, 0, none⟩ = some (.int .i64 y1) := hB.cell 1 rfl 0
  have b1 : W.cell? ⟨h2, 1, none⟩ = some (.int .i64 y2) := hB.cell 1 rfl 1
  obtain ⟨d1, hd1⟩ : ∃ d, decide (x1 < y1) = d := ⟨_, rfl⟩
  obtain ⟨d2, hd2⟩ : ∃ d, (x1 == y1) = d := ⟨_, rfl⟩
  obtain ⟨d3, hd3⟩ : ∃ d, decide (x2 < y2) = d := ⟨_, rfl⟩
  have hbb : (n || (d1 || (d2 && d3))) = b := by
    rw [← hb, ← hd1, ← hd2, ← hd3]
    unfold lessP
    congr 2
  have HBb := Hold.mk hbb
  clear hB hb hbb
  cases n <;> cases d1 <;> cases d2 <;> cases d3
  all_goals
    go_enter Try.func156, Try.ntmps156
    go_wp2
    go_ret
    exact ⟨by rw [← HBb.out]; rfl, HBl⟩
theorem less_calls (x y : Pair) (n : Bool) (w : World) (b : Bool) (hb : (n || lessP x y) = b) :
    Calls Try.prog 156 #[.agg (pc x), .agg (pc y), .bool n] w fun r w' => r = .returned (.bool b) ∧ Hold (Below w.heap.size w w') := less_calls' x.1 x.2 y.1 y.2 n w b hb

/-- The command's cells, in an entry's box. -/
theorem cmd_at {w : World} {g : Nat} {e : ER} {x : CmdD} (hc : ∀ k, w.cell? ⟨g, k, none⟩ = e.cells[k]?) (hx : e.c = x) : w.cell? ⟨g, 0, none⟩ = some (.int .i64 x.id) ∧ w.cell? ⟨g, 1, none⟩ = some (.int .i64 x.kind) ∧ w.cell? ⟨g, 2, none⟩ = some (.int .i64 x.sym) ∧ w.cell? ⟨g, 3, none⟩ = some (.int .i64 x.tgt) ∧ w.cell? ⟨g, 4, none⟩ = some (.int .i64 x.side) ∧ w.cell? ⟨g, 5, none⟩ = some (.int .i64 x.price) ∧ w.cell? ⟨g, 6, none⟩ = some (.int .i64 x.qty) := by
  subst hx
  obtain ⟨k0, k1, k2, k3, k4, k5, k6, _⟩ := e.all
  exact ⟨(hc 0).trans k0, (hc 1).trans k1, (hc 2).trans k2, (hc 3).trans k3, (hc 4).trans k4, (hc 5).trans k5, (hc 6).trans k6⟩
theorem val_at {w : World} {g : Nat} {e : ER} (hc : ∀ k, w.cell? ⟨g, k, none⟩ = e.cells[k]?) : w.cell? ⟨g, 17, none⟩ = some (.int .i64 e.v.t) ∧ w.cell? ⟨g, 18, none⟩ = some (.slice e.v.A e.v.n e.v.c) := by
  obtain ⟨_, _, _, _, _, _, _, _, _, _, _, _, _, _, _, _, _, k17, k18⟩ := e.all
  exact ⟨(hc 17).trans k17, (hc 18).trans k18⟩
/-- The pair that is returned. -/
theorem res_pair {fn : Func} {r j k : Nat} {tmps : Array Value} {v : Value} {w : World} {T' : TypeId} {C : Array Value} (hr : fn.results = #[.cell j 172, .tmp k]) (h1 : tmps.getD j undef = .pointer (some ⟨r, 0, none⟩)) (h2 : tmps.getD k undef = v) (hb : w.heap[r]? = some (.cells C T' (0, 0))) (hs : C.size = 2) :
    (results fn tmps).run Try.prog w = .ok (.tuple #[.agg C, v]) w := by
  have hsz : (Try.prog.info? 172).map (·.size) = some 2 := by kernel_rfl
  have hl := run_loadVar_mid (P := Try.prog) w r 0 172 C.toList _ (fun j v hv => by rw [cell_of_row w r (0 + j) C T' (0, 0) hb]; simpa using hv) Try.underlying172 rfl (by rw [hsz]; simp [hs])
  simp only [Array.toArray_toList] at hl
  simp only [Array.getD_eq_getD_getElem?] at h1 h2
  simp [results, hr, h1, h2, asAddr, Sem.run_bind, hl]
theorem set2 {w : World} {g : Nat} {T : TypeId} {a0 a1 : Value} (h : w.heap[g]? = some (.cells #[a0, a1] T (0, 0))) (x y : Value) : ((w.setCell ⟨g, 0, none⟩ x).setCell ⟨g, 1, none⟩ y).heap[g]? = some (.cells #[x, y] T (0, 0)) ∧ Fr (fun k => k = g) w ((w.setCell ⟨g, 0, none⟩ x).setCell ⟨g, 1, none⟩ y) := by
  have e1 := setCell_eq_setRow w g 0 _ T (0, 0) x h
  have h1 : (w.setCell ⟨g, 0, none⟩ x).heap[g]? = some (.cells #[x, a1] T (0, 0)) := by rw [e1]; exact setRow_heap w g _ _ T (0, 0) h
  have e2 := setCell_eq_setRow _ g 1 _ T (0, 0) y h1
  refine ⟨by rw [e2]; exact setRow_heap _ g _ _ T (0, 0) h1, ?_⟩
  exact ((Fr.refl (fun k => k = g) w).setCell (p := ⟨g, 0, none⟩) (.inl rfl) x).setCell (p := ⟨g, 1, none⟩) (.inl rfl) y
theorem below_fr {w W W' : World} {g : Nat} (hb : Below w.heap.size w W) (hf : Fr (fun k => k = g) W W') (hg : w.heap.size ≤ g) : Below w.heap.size w W' :=
  ⟨hf.os.trans hb.os, hf.tape.trans hb.tape, hf.output.trans hb.output, Nat.le_trans hb.size hf.size, fun k hk => (hf.block k (Nat.lt_of_lt_of_le hk hb.size) (fun e => by omega)).trans (hb.block k hk)⟩
/-- The boxes of two entries, and the pair that is returned. -/
theorem boxes (a b : ER) (w : World) : ∀ h1 h2 h3 W, w.heap.size = h1 → h1 + 1 = h2 → h2 + 1 = h3 → ((w.alloc (.cells a.cells 75)).alloc (.cells b.cells 75)).alloc (.cells #[.int .i64 0, .int .i64 0] 172) = W →
    Bs w W [(h1, 75, a.cells), (h2, 75, b.cells), (h3, 172, #[.int .i64 0, .int .i64 0])] := by
  rintro h1 h2 h3 W rfl rfl rfl rfl
  simpa using (((Bs.nil w).alloc a.cells 75).alloc b.cells 75).alloc #[.int .i64 0, .int .i64 0] 172
def apartD (a b : QE) : Pair × Bool := if a.id = b.id then ((a.id, 0), decide (a.er.c ≠ b.er.c) || !(sameV a b)) else ((0, 0), false)
theorem apartD_eq (a b : QE) : (if (apartD a b).2 = true then some (apartD a b).1 else none) = apart a b := by
  unfold apartD apart
  by_cases h : a.id = b.id
  · simp [h]
  · simp [h]
def Two21 (w : World) (p : Pair × Bool) (r : Ending) (w' : World) : Prop := r = .returned (.tuple #[.agg (pc p.1), .bool p.2]) ∧ Hold (Below w.heap.size w w')
set_option maxHeartbeats 4000000 in
set_option maxRecDepth 100000 in
theorem apart21_calls (a b : QE) (I J : Nat → Prop) (w : World) (ha : QF J w a) (hb : QF I w b) (p : Pair × Bool) (hp : apartD a b = p) :
    Calls Try.prog 153 #[.agg a.er.cells, .agg b.er.cells] w (Two21 w p) := by
  obtain ⟨h1, hh1⟩ : ∃ b, w.heap.size = b := ⟨_, rfl⟩
  obtain ⟨h2, hh2⟩ : ∃ b, h1 + 1 = b := ⟨_, rfl⟩
  obtain ⟨h3, hh3⟩ : ∃ b, h2 + 1 = b := ⟨_, rfl⟩
  obtain ⟨W, hW⟩ : ∃ W, ((w.alloc (.cells a.er.cells 75)).alloc (.cells b.er.cells 75)).alloc (.cells #[.int .i64 0, .int .i64 0] 172) = W := ⟨_, rfl⟩
  have hB := boxes a.er b.er w h1 h2 h3 W hh1 hh2 hh3 hW
  have HS := Hold.mk (refSameVal_calls a.er.v b.er.v a.ps b.ps W ⟨ha.len, (ha.row.below hB.below).move fun _ _ _ => ⟨trivial, rfl⟩, ha.t⟩ ⟨hb.len, (hb.row.below hB.below).move fun _ _ _ => ⟨trivial, rfl⟩, hb.t⟩ _ rfl)
  obtain ⟨sv, hsv⟩ : ∃ s, okSame a.er.v b.er.v a.ps b.ps = s := ⟨_, rfl⟩
  rw [hsv] at HS
  have hsv2 : sameV a b = sv := by rw [← hsv]; unfold sameV okSame; rw [Bool.decide_and]
  have a0 : W.cell? ⟨h1, 0, none⟩ = some (.int .i64 a.er.c.id) := hB.cell 0 rfl 0
  have b0 : W.cell? ⟨h2, 0, none⟩ = some (.int .i64 b.er.c.id) := hB.cell 1 rfl 0
  have ka := a.er.all
  have kb := b.er.all
  obtain ⟨x, hx⟩ : ∃ x, a.er.c = x := ⟨_, rfl⟩
  obtain ⟨y, hy⟩ : ∃ x, b.er.c = x := ⟨_, rfl⟩
  rw [hx] at a0
  rw [hy] at b0
  have hpp : p = if x.id = y.id then ((x.id, 0), decide (x ≠ y) || !sv) else ((0, 0), false) := by rw [← hp]; unfold apartD; simp only [QE.id, hx, hy, hsv2]
  have HPp := Hold.mk hpp
  clear ha hb hp hsv hsv2 hpp
  by_cases e1 : x.id = y.id
  · have k1 : (x.id != y.id) = false := by simpa using e1
    have k1' : (x.id == y.id) = true := by simpa using e1
    have HPe : Hold (p = ((x.id, 0), decide (x ≠ y) || !sv)) := ⟨by rw [HPp.out, if_pos e1]⟩
    clear e1
    go_enter Try.func153, Try.ntmps153
    go_upto_region 4 with (first
      | (with_reducible refine gateL 34 ?_; refine wpl_loadF isV (V := #[.int .i64 a.er.v.t, .slice a.er.v.A a.er.v.n a.er.v.c]) rfl hB 0 rfl rfl rfl rfl ?_)
      | (with_reducible refine gateL 34 ?_; refine wpl_loadF isV (V := #[.int .i64 b.er.v.t, .slice b.er.v.A b.er.v.n b.er.v.c]) rfl hB 1 rfl rfl rfl rfl ?_)
      | (go_at_call 28; refine HS.out.mono ?_; rintro r w1 ⟨rfl, hb1⟩))
    replace hB := hB.step hb1
    have c0 : w1.cell? ⟨h3, 0, none⟩ = some (.int .i64 0) := hB.cell 2 rfl 0
    have c1 : w1.cell? ⟨h3, 1, none⟩ = some (.int .i64 0) := hB.cell 2 rfl 1
    have z : ∀ k, w1.frozen? ⟨h3, k, none⟩ = false := hB.fz 2 rfl
    obtain ⟨f0, f1, f2, f3, f4, f5, f6⟩ := cmd_at (hB.cell 0 rfl) hx
    obtain ⟨q0, q1, q2, q3, q4, q5, q6⟩ := cmd_at (hB.cell 1 rfl) hy
    have HB := Hold.mk (hB.step (below_drewN w1 1))
    have n13 : h1 ≠ h3 := by omega
    have n23 : h2 ≠ h3 := by omega
    clear hB hb1 ka kb a0 b0 hx hy hW hh1 hh2 hh3
    by_cases e2 : x = y
    · subst e2
      have HPe2 : Hold (p = ((x.id, 0), !sv)) := ⟨by rw [HPe.out]; simp⟩
      clear k1 k1'
      cases sv
      all_goals
        go_big_region
        go_wp2
        obtain ⟨s1, s2⟩ := set2 (HB.out.at_ 2 _ _ _ rfl).1 (.int .i64 x.id) (.int .i64 0)
        exact bodyPost_ret (res_pair rfl rfl rfl s1 rfl) rfl ⟨by rw [HPe2.out]; rfl, ⟨below_fr HB.out.below s2 (HB.out.at_ 2 _ _ _ rfl).2⟩⟩
    · have HPe2 : Hold (p = ((x.id, 0), true)) := ⟨by rw [HPe.out]; simp [e2]⟩
      have hf := CmdD.first e2
      clear e2 k1
      rcases hf with q | ⟨_, q⟩ | ⟨_, k2, q⟩ | ⟨_, k2, k3, q⟩ | ⟨_, k2, k3, k4, q⟩ | ⟨_, k2, k3, k4, k5, q⟩ | ⟨_, k2, k3, k4, k5, k6, q⟩
      · rw [k1'] at q; cases q
      all_goals
        go_big_region
        go_wp2
        obtain ⟨s1, s2⟩ := set2 (HB.out.at_ 2 _ _ _ rfl).1 (.int .i64 x.id) (.int .i64 0)
        exact bodyPost_ret (res_pair rfl rfl rfl s1 rfl) rfl ⟨by rw [HPe2.out]; rfl, ⟨below_fr HB.out.below s2 (HB.out.at_ 2 _ _ _ rfl).2⟩⟩
  · have k1 : (x.id != y.id) = true := by simpa using e1
    have HPe : Hold (p = ((0, 0), false)) := ⟨by rw [HPp.out, if_neg e1]⟩
    clear e1
    go_enter Try.func153, Try.ntmps153
    have c0 : W.cell? ⟨h3, 0, none⟩ = some (.int .i64 0) := hB.cell 2 rfl 0
    have c1 : W.cell? ⟨h3, 1, none⟩ = some (.int .i64 0) := hB.cell 2 rfl 1
    have z : ∀ k, W.frozen? ⟨h3, k, none⟩ = false := hB.fz 2 rfl
    go_wp2
    obtain ⟨s1, s2⟩ := set2 (hB.at_ 2 _ _ _ rfl).1 (.int .i64 0) (.int .i64 0)
    exact bodyPost_ret (res_pair rfl rfl rfl s1 rfl) rfl ⟨by rw [HPe.out]; rfl, ⟨below_fr hB.below s2 (hB.at_ 2 _ _ _ rfl).2⟩⟩

end Go.Proofs.Ytebhclgnpnlekaa.Chk
