/- Law 21's alive, by its walk. No condition. -/
import Derived.Test.YtebhclgnpnlekaaChkK
namespace Go.Proofs.Ytebhclgnpnlekaa.Chk
open Go.RowKit Go.Proofs.Ytebhclgnpnlekaa.B Go.Proofs.Ytebhclgnpnlekaa.Cmd Go.Proofs.Ytebhclgnpnlekaa.Agg Go.Proofs.Ytebhclgnpnlekaa.Ent Go.Proofs.Ytebhclgnpnlekaa.Ord
open Go.Proofs.Ytebhclgnpnlekaa.Pr (CO arr arr_size arr_one isC zeroC)
def n0 : ByteArray := ⟨#[102, 105, 110, 101]⟩
def n1 : ByteArray := ⟨#[97, 112, 97, 114, 116]⟩
def n2 : ByteArray := ⟨#[116, 119, 105, 99, 101]⟩
def n3 : ByteArray := ⟨#[109, 105, 115, 115, 101, 100]⟩
def n4 : ByteArray := ⟨#[108, 97, 116, 101]⟩
def nE : ByteArray := ⟨#[]⟩
def nameS (f : Int) : ByteArray := if f = 0 then n0 else if f = 1 then n1 else if f = 2 then n2 else if f = 3 then n3 else if f = 4 then n4 else nE
set_option maxHeartbeats 4000000 in
set_option maxRecDepth 100000 in
theorem name_calls (f : Int) (w : World) : Calls Try.prog 77 #[.int .i64 f] w fun r w' => r = .returned (.string (nameS f)) ∧ Hold (Below w.heap.size w w') := by
  by_cases h0 : f < 0
  · have HN : Hold (nameS f = nE) := ⟨by unfold nameS; rw [if_neg (by omega), if_neg (by omega), if_neg (by omega), if_neg (by omega), if_neg (by omega)]⟩
    go_enter Try.func77, Try.ntmps77
    go_wp2
    go_ret
    exact ⟨by rw [HN.out]; rfl, ⟨Below.refl _ _⟩⟩
  · by_cases h4 : 4 < f
    · have HN : Hold (nameS f = nE) := ⟨by unfold nameS; rw [if_neg (by omega), if_neg (by omega), if_neg (by omega), if_neg (by omega), if_neg (by omega)]⟩
      go_enter Try.func77, Try.ntmps77
      go_wp2
      go_ret
      exact ⟨by rw [HN.out]; rfl, ⟨Below.refl _ _⟩⟩
    · have hf : f = 0 ∨ f = 1 ∨ f = 2 ∨ f = 3 ∨ f = 4 := by omega
      clear h0 h4
      rcases hf with rfl | rfl | rfl | rfl | rfl
      all_goals
        go_enter Try.func77, Try.ntmps77
        go_wp2
        go_ret
        exact ⟨rfl, ⟨(Below.refl _ _).alloc (Nat.le_refl _) _⟩⟩
theorem names_calls (w : World) : Calls Try.prog 76 #[] w fun r w' => r = .returned (.slice (some ⟨w.heap.size, 0, none⟩) 5 5) ∧ w.alloc (.cells #[.string n0, .string n1, .string n2, .string n3, .string n4] 9) = w' := by
  go_enter Try.func76, Try.ntmps76
  go_wp2
  go_ret
  exact ⟨rfl, rfl⟩
def za : ER := ⟨ca, 0, 0, 0, noVR, 0, noVR, false, true, ⟨33, none, 0, 0⟩⟩
def zb : ER := ⟨cb, 0, 0, 0, noVR, 0, noVR, false, true, ⟨48, none, 0, 0⟩⟩
def zc (g : Nat) : ER := ⟨cb, 0, 0, 0, noVR, 0, noVR, false, true, ⟨48, some ⟨g, 0, none⟩, 1, 1⟩⟩
def qa : QE := ⟨za, []⟩
def qb : QE := ⟨zb, []⟩
def qc (g : Nat) : QE := ⟨zc g, [ca]⟩
theorem look1 : look [([qa], []), ([qb], [])] = (3, 16, 17) := by kernel_rfl
theorem look2 (g : Nat) : look [([qa, qc g], [17])] = (4, 16, 17) := by kernel_rfl
theorem look3 (g : Nat) : look [([qa, qc g], [16, 17])] = (0, 0, 0) := by kernel_rfl
section
variable {P : Program} {ops : Array Oper} {rest : List Oper} {a : Act} {w0 w : World} {Q : Exit → Act → World → Prop} {dst : Option Tmp} {ty : TypeId} {pos : String} {after : Array Edge} {l : List (Nat × TypeId × Array Value)}
theorem wpl_lit1 {t e : TypeId} {x : Operand} {v : Value} {C : Array Value} (hu : P.underlying t = some (.slice e)) (hx : a.eval x = v) (hf : P.builtSlice e 1 [(0, v)] = some C) (hB : Bs w0 w l)
    (h : ∀ w' g', Bs w0 w' (l ++ [(g', e, C)]) → wpList P ops Q rest (a.put dst (.slice (some ⟨g', 0, none⟩) 1 1)) w') : wpList P ops Q (⟨dst, .buildSlice t 1 #[(0, x)], ty, pos, after, none⟩ :: rest) a w :=
  Great.wpList_buildSliceTo rfl t e 1 #[(0, x)] rfl w.heap.size rfl dst rfl hu C (by simpa [hx] using hf) (h _ _ (hB.alloc C e))
theorem wpl_lit2 {t e : TypeId} {x y : Operand} {v u : Value} {C : Array Value} (hu : P.underlying t = some (.slice e)) (hx : a.eval x = v) (hy : a.eval y = u) (hf : P.builtSlice e 2 [(0, v), (1, u)] = some C) (hB : Bs w0 w l)
    (h : ∀ w' g', Bs w0 w' (l ++ [(g', e, C)]) → wpList P ops Q rest (a.put dst (.slice (some ⟨g', 0, none⟩) 2 2)) w') : wpList P ops Q (⟨dst, .buildSlice t 2 #[(0, x), (1, y)], ty, pos, after, none⟩ :: rest) a w :=
  Great.wpList_buildSliceTo rfl t e 2 #[(0, x), (1, y)] rfl w.heap.size rfl dst rfl hu C (by simpa [hx, hy] using hf) (h _ _ (hB.alloc C e))
end
theorem built_w1 (A B : Option Addr) (n c m d : Nat) : Try.prog.builtSlice 114 1 [(0, .agg #[.slice A n c, .slice B m d])] = some #[.slice A n c, .slice B m d] := by kernel_rfl
theorem built_w2 (A B A' B' : Option Addr) (n c m d n' c' m' d' : Nat) : Try.prog.builtSlice 114 2 [(0, .agg #[.slice A n c, .slice B m d]), (1, .agg #[.slice A' n' c', .slice B' m' d'])] = some #[.slice A n c, .slice B m d, .slice A' n' c', .slice B' m' d'] := by kernel_rfl
theorem built_i1 (x : Int) : Try.prog.builtSlice 3 1 [(0, .int .i64 x)] = some #[.int .i64 x] := by kernel_rfl
theorem built_i2 (x y : Int) : Try.prog.builtSlice 3 2 [(0, .int .i64 x), (1, .int .i64 y)] = some #[.int .i64 x, .int .i64 y] := by kernel_rfl
theorem szSl : (Try.prog.info? 23).map (·.size) = some 1 := by kernel_rfl
theorem view_rows {w0 w : World} {l : List (Nat × TypeId × Array Value)} {b : Nat} {T : TypeId} {C : Array Value} (hB : Bs w0 w l) (i : Nat) (hi : l[i]? = some (b, T, C)) (xs : List ViewD) (hm : xs.length ≤ maxLen) (h : ∀ k x, xs[k]? = some x → ∃ cs, viewRep.K (fun _ => True) w x cs ∧ ∀ j u, cs[j]? = some u → C[k * 2 + j]? = some u) : Rep.Row viewRep (fun _ => True) w (some ⟨b, 0, none⟩) xs := by
  refine ⟨hm, fun _ => ⟨_, rfl, trivial, hB.lt i hi, fun k x hk => ?_⟩⟩
  obtain ⟨cs, h1, h2⟩ := h k x hk
  refine ⟨cs, h1, fun j u hu => ?_⟩
  have e1 : (⟨b, 0, none⟩ : Addr).add (k * viewRep.sz + j) = ⟨b, k * 2 + j, none⟩ := by
    show (⟨b, 0, none⟩ : Addr).add (k * 2 + j) = _
    unfold Addr.add
    split <;> simp_all
  rw [e1, hB.cell i hi]
  exact h2 j u hu
theorem ints_row {w0 w : World} {l : List (Nat × TypeId × Array Value)} {b : Nat} {T : TypeId} {C : Array Value} (hB : Bs w0 w l) (i : Nat) (hi : l[i]? = some (b, T, C)) (xs : List Int) (hm : xs.length ≤ maxLen) (h : ∀ (k : Nat) (x : Int), xs[k]? = some x → C[k]? = some (Value.int .i64 x) ∧ (Lit.int .i64 x).wf = true) : Rep.Row (Rep.int .i64) (fun _ => True) w (some ⟨b, 0, none⟩) xs := by
  refine ⟨hm, fun _ => ⟨_, rfl, trivial, hB.lt i hi, fun k x hk => ?_⟩⟩
  obtain ⟨h1, h2⟩ := h k x hk
  refine ⟨[.int .i64 x], ⟨rfl, h2⟩, fun j u hu => ?_⟩
  have hj : j = 0 := by have := (List.getElem?_eq_some_iff.1 hu).1; simpa using this
  subst hj
  have hu' : Value.int .i64 x = u := by simpa using hu
  subst hu'
  have e1 : (⟨b, 0, none⟩ : Addr).add (k * (Rep.int .i64).sz + 0) = ⟨b, k, none⟩ := by
    show (⟨b, 0, none⟩ : Addr).add (k * 1 + 0) = _
    unfold Addr.add
    split <;> simp_all
  rw [e1, hB.cell i hi]
  exact h1
theorem one_row {w0 w : World} {l : List (Nat × TypeId × Array Value)} {b : Nat} {T : TypeId} {x : QE} (hB : Bs w0 w l) (i : Nat) (hi : l[i]? = some (b, T, x.er.cells)) (hF : QF (fun _ => True) w x) : Rep.Row qeRep (fun _ => True) w (some ⟨b, 0, none⟩) [x] :=
  qe_row hB i hi _ (by simp [maxLen]) (fun k y hk => by
    have hk0 : k = 0 := by have := (List.getElem?_eq_some_iff.1 hk).1; simpa using this
    subst hk0
    have hy : x = y := by simpa using hk
    subst hy
    exact ⟨fun j u hu => by rw [Nat.zero_mul, Nat.zero_add]; exact hu, hF⟩)
theorem two_row {w0 w : World} {l : List (Nat × TypeId × Array Value)} {b : Nat} {T : TypeId} {x y : QE} (hB : Bs w0 w l) (i : Nat) (hi : l[i]? = some (b, T, x.er.cells ++ y.er.cells)) (hF : QF (fun _ => True) w x) (hG : QF (fun _ => True) w y) : Rep.Row qeRep (fun _ => True) w (some ⟨b, 0, none⟩) [x, y] :=
  qe_row hB i hi _ (by simp [maxLen]) (fun k z hk => by
    rcases k with _ | _ | k
    · have hx : x = z := by simpa using hk
      subst hx
      refine ⟨fun j u hu => ?_, hF⟩
      have hj : j < x.er.cells.size := (Array.getElem?_eq_some_iff.1 hu).1
      rw [Nat.zero_mul, Nat.zero_add, Array.getElem?_append_left hj]
      exact hu
    · have hx : y = z := by simpa using hk
      subst hx
      refine ⟨fun j u hu => ?_, hG⟩
      have hs : x.er.cells.size = 19 := ER.size _
      rw [Array.getElem?_append_right (by omega), hs]
      have : (0 + 1) * 19 + j - 19 = j := by omega
      rw [this]
      exact hu
    · simp at hk)
theorem qf_a (w : World) : QF (fun _ => True) w qa := ⟨wf_ca, (by decide : (Lit.int .i64 33).wf = true), rfl, Rep.Row.nil _ _ _ _⟩
theorem qf_b (w : World) : QF (fun _ => True) w qb := ⟨wf_cb, (by decide : (Lit.int .i64 48).wf = true), rfl, Rep.Row.nil _ _ _ _⟩
theorem one_view {w0 w : World} {l : List (Nat × TypeId × Array Value)} {b : Nat} {T : TypeId} {A B : Option Addr} {c d : Nat} {x : ViewD} (hB : Bs w0 w l) (i : Nat) (hi : l[i]? = some (b, T, #[.slice A x.1.length c, .slice B x.2.length d])) (hc : x.1.length ≤ c) (hA : A = none → c = 0) (hd : x.2.length ≤ d) (hBn : B = none → d = 0) (hr : Rep.Row qeRep (fun _ => True) w A x.1) (hr' : Rep.Row (Rep.int .i64) (fun _ => True) w B x.2) : Rep.Row viewRep (fun _ => True) w (some ⟨b, 0, none⟩) [x] :=
  view_rows hB i hi _ (by simp [maxLen]) (fun k y hk => by
    have hk0 : k = 0 := by have := (List.getElem?_eq_some_iff.1 hk).1; simpa using this
    subst hk0
    have hy : x = y := by simpa using hk
    subst hy
    exact ⟨_, ⟨A, c, B, d, rfl, hc, hA, hd, hBn, hr, hr'⟩, fun j u hu => by
      rw [Nat.zero_mul, Nat.zero_add]
      simpa using hu⟩)
theorem qf_c {w0 w : World} {l : List (Nat × TypeId × Array Value)} {b : Nat} {T : TypeId} (hB : Bs w0 w l) (i : Nat) (hi : l[i]? = some (b, T, arr ca)) : QF (fun _ => True) w (qc b) := ⟨wf_cb, (by decide : (Lit.int .i64 48).wf = true), rfl, row_c1 hB i hi wf_ca⟩
theorem one_sl (A : Option Addr) (n c : Nat) : ∀ u ∈ (#[Value.slice A n c] : Array Value).toList, u.oneCell' = true := by
  intro u hu
  have hu : u ∈ [Value.slice A n c] := hu
  rw [List.mem_singleton.1 hu]
  rfl
set_option maxHeartbeats 8000000 in
set_option maxRecDepth 100000 in
theorem alive_calls (w : World) : Calls Try.prog 72 #[] w fun r w' => r = .returned (.bool true) ∧ Hold (Below w.heap.size w w') := by
  have hB := Bs.nil w
  have HNm : Hold (∀ W, Calls Try.prog 77 #[.int .i64 4] W fun r w' => r = .returned (.string n4) ∧ Hold (Below W.heap.size W w')) := ⟨fun W => name_calls 4 W⟩
  go_enter Try.func72, Try.ntmps72
  go_upto_region 2 with (first
    | (with_reducible refine gateA 70 ?_; refine wpl_alloc zeroE hB rfl ?_; intro W1 ga hB; simp only [List.nil_append] at hB)
    | (with_reducible refine gateS 70 ?_; refine wpl_store (C' := za.cells) isE rfl rfl hB 0 rfl (ER.size _) (ER.size _) (ER.one _) rfl ?_; intro W1 hB; simp only [List.set] at hB))
  go_upto_region 3 with (first
    | (with_reducible refine gateA 70 ?_; refine wpl_alloc zeroE hB rfl ?_; intro W2 gb hB; simp only [List.cons_append, List.nil_append] at hB)
    | (with_reducible refine gateS 70 ?_; refine wpl_store (C' := zb.cells) isE rfl rfl hB 1 rfl (ER.size _) (ER.size _) (ER.one _) rfl ?_; intro W2 hB; simp only [List.set] at hB))
  go_upto_region 4 with (first
    | (with_reducible refine gateL 70 ?_; refine wpl_load isE rfl hB 0 rfl (ER.size _) rfl ?_)
    | (with_reducible refine gateL 70 ?_; refine wpl_load isE rfl hB 1 rfl (ER.size _) rfl ?_)
    | (with_reducible refine gateB 90 ?_; refine wpl_boxB Try.underlying90 (C := za.cells) rfl (built_qe za) hB rfl ?_; intro W3 s1 hB; simp only [List.cons_append, List.nil_append] at hB)
    | (with_reducible refine gateB 90 ?_; refine wpl_boxB Try.underlying90 (C := zb.cells) rfl (built_qe zb) hB rfl ?_; intro W4 s2 hB; simp only [List.cons_append, List.nil_append] at hB)
    | (with_reducible refine gateB 111 ?_; refine wpl_lit2 (v := .agg #[.slice (some ⟨s1, 0, none⟩) 1 1, .slice none 0 0]) (u := .agg #[.slice (some ⟨s2, 0, none⟩) 1 1, .slice none 0 0]) Try.underlying111 rfl rfl (built_w2 (some ⟨s1, 0, none⟩) none (some ⟨s2, 0, none⟩) none 1 1 0 0 1 1 0 0) hB ?_; intro W5 s3 hB; simp only [List.cons_append, List.nil_append] at hB)
    | (go_at_call 73; refine (look_calls (some ⟨s3, 0, none⟩) 2 [([qa], []), ([qb], [])] W5 (view_rows hB 4 rfl _ (by simp [maxLen]) (fun k x hk => by
        rcases k with _ | _ | k
        · have hx : (([qa], []) : ViewD) = x := by simpa using hk
          subst hx
          exact ⟨_, ⟨some ⟨s1, 0, none⟩, 1, none, 0, rfl, by simp, by simp, by simp, by simp, one_row hB 2 rfl (qf_a _), Rep.Row.nil _ _ _ _⟩, fun j u hu => by
            rcases j with _ | _ | j
            · simpa using hu
            · simpa using hu
            · simp at hu⟩
        · have hx : (([qb], []) : ViewD) = x := by simpa using hk
          subst hx
          exact ⟨_, ⟨some ⟨s2, 0, none⟩, 1, none, 0, rfl, by simp, by simp, by simp, by simp, one_row hB 3 rfl (qf_b _), Rep.Row.nil _ _ _ _⟩, fun j u hu => by
            rcases j with _ | _ | j
            · simpa using hu
            · simpa using hu
            · simp at hu⟩
        · simp at hk)) (by simp) (by simp) _ look1).mono ?_; rintro r W6 ⟨rfl, HB6⟩; replace hB := hB.step HB6.out))
  go_upto_region 5 with (first
    | (with_reducible refine gateL 45 ?_; refine wpl_loadF isC (V := arr ca) rfl hB 0 rfl rfl rfl rfl ?_)
    | (with_reducible refine gateB 23 ?_; refine wpl_boxB Try.underlying23 (C := arr ca) rfl (built_c1 ca) hB rfl ?_; intro W7 s4 hB; simp only [List.cons_append, List.nil_append] at hB)
    | (with_reducible refine gateS 23 ?_; refine wpl_storeF (V := #[.slice (some ⟨s4, 0, none⟩) 1 1]) (C' := (zc s4).cells) (o := 18) (m := 1) szSl rfl rfl rfl hB 1 rfl rfl (by rw [ER.size]; omega) (one_sl _ _ _) rfl rfl ?_; intro W8 hB; simp only [List.set] at hB))
  go_upto_region 6 with (first
    | (with_reducible refine gateL 70 ?_; refine wpl_load isE rfl hB 0 rfl (ER.size _) rfl ?_)
    | (with_reducible refine gateL 70 ?_; refine wpl_load isE rfl hB 1 rfl (ER.size _) rfl ?_)
    | (with_reducible refine gateB 90 ?_; refine wpl_boxB2 Try.underlying90 (C := za.cells) (D := (zc s4).cells) rfl rfl (built_e2 _ _) hB rfl ?_; intro W5 e5 hB; simp only [List.cons_append, List.nil_append] at hB)
    | (with_reducible refine gateB 22 ?_; refine wpl_lit1 (v := .int .i64 17) Try.underlying22 rfl (built_i1 17) hB ?_; intro W5 i5 hB; simp only [List.cons_append, List.nil_append] at hB)
    | (with_reducible refine gateB 111 ?_; refine wpl_lit1 (v := .agg #[.slice (some ⟨e5, 0, none⟩) 2 2, .slice (some ⟨i5, 0, none⟩) 1 1]) Try.underlying111 rfl (built_w1 (some ⟨e5, 0, none⟩) (some ⟨i5, 0, none⟩) 2 2 1 1) hB ?_; intro W5 v5 hB; simp only [List.cons_append, List.nil_append] at hB)
    | (go_at_call 73; refine (look_calls (some ⟨v5, 0, none⟩) 1 [([qa, qc s4], [17])] _ (one_view hB 8 rfl (by simp) (by simp) (by simp) (by simp) (two_row (x := qa) (y := qc s4) hB 6 rfl (qf_a _) (qf_c hB 5 rfl)) (ints_row hB 7 rfl [17] (by simp [maxLen]) (fun k x hk => by
        rcases k with _ | k
        · have hx : (17 : Int) = x := by simpa using hk
          subst hx
          exact ⟨rfl, by decide⟩
        · simp at hk))) (by simp) (by simp) _ (look2 s4)).mono ?_; rintro r W59 ⟨rfl, HB9⟩; replace hB := hB.step HB9.out))
  go_upto_region 7 with (first
    | (with_reducible refine gateL 70 ?_; refine wpl_load isE rfl hB 0 rfl (ER.size _) rfl ?_)
    | (with_reducible refine gateL 70 ?_; refine wpl_load isE rfl hB 1 rfl (ER.size _) rfl ?_)
    | (with_reducible refine gateB 90 ?_; refine wpl_boxB2 Try.underlying90 (C := za.cells) (D := (zc s4).cells) rfl rfl (built_e2 _ _) hB rfl ?_; intro W6 e6 hB; simp only [List.cons_append, List.nil_append] at hB)
    | (with_reducible refine gateB 22 ?_; refine wpl_lit2 (v := .int .i64 16) (u := .int .i64 17) Try.underlying22 rfl rfl (built_i2 16 17) hB ?_; intro W6 i6 hB; simp only [List.cons_append, List.nil_append] at hB)
    | (with_reducible refine gateB 111 ?_; refine wpl_lit1 (v := .agg #[.slice (some ⟨e6, 0, none⟩) 2 2, .slice (some ⟨i6, 0, none⟩) 2 2]) Try.underlying111 rfl (built_w1 (some ⟨e6, 0, none⟩) (some ⟨i6, 0, none⟩) 2 2 2 2) hB ?_; intro W6 v6 hB; simp only [List.cons_append, List.nil_append] at hB)
    | (go_at_call 73; refine (look_calls (some ⟨v6, 0, none⟩) 1 [([qa, qc s4], [16, 17])] _ (one_view hB 11 rfl (by simp) (by simp) (by simp) (by simp) (two_row (x := qa) (y := qc s4) hB 9 rfl (qf_a _) (qf_c hB 5 rfl)) (ints_row hB 10 rfl [16, 17] (by simp [maxLen]) (fun k x hk => by
        rcases k with _ | _ | k
        · have hx : (16 : Int) = x := by simpa using hk
          subst hx
          exact ⟨rfl, by decide⟩
        · have hx : (17 : Int) = x := by simpa using hk
          subst hx
          exact ⟨rfl, by decide⟩
        · simp at hk))) (by simp) (by simp) _ (look3 s4)).mono ?_; rintro r W69 ⟨rfl, HB9⟩; replace hB := hB.step HB9.out))
  have HBl := Hold.mk hB.below
  have hne : (n4.toList == [108, 97, 116, 101]) = true := by decide +kernel
  clear hB
  go_wp2_with (go_at_call 77; refine (HNm.out _).mono ?_; rintro r w9 ⟨rfl, HB10⟩)
  go_ret
  exact ⟨rfl, ⟨HBl.out.trans (HB10.out.mono HBl.out.size)⟩⟩
end Go.Proofs.Ytebhclgnpnlekaa.Chk
