/- The law FrameTorn: its plain law, and its walk; no condition. -/
import Derived.Test.YtgeeicpjphdolaaFrPlain
import Derived.Test.YtgeeicpjphdolaaFrAlive
namespace Go.Proofs.Ytgeeicpjphdolaa.Frame
open Go.RowKit Go.Proofs.Ytgeeicpjphdolaa.B

/-- Frames, one behind the other. -/
def cat (ls : List (List Int)) : List Int := (ls.map wrapL).flatten
theorem cat_cons (b : List Int) (ls : List (List Int)) : cat (b :: ls) = wrapL b ++ cat ls := by simp [cat]
theorem cat_snoc (b : List Int) (ls : List (List Int)) : cat (ls ++ [b]) = cat ls ++ wrapL b := by simp [cat]
theorem cat_take_succ {ls : List (List Int)} {k : Nat} (h : k < ls.length) : cat (ls.take (k + 1)) = cat (ls.take k) ++ wrapL ls[k] := by rw [List.take_succ_eq_append_getElem h, cat_snoc]

theorem scan_torn : ∀ (ls : List (List Int)), (∀ b ∈ ls, 1 ≤ b.length ∧ b.length ≤ 65535) → ∀ (K j : Nat), j ≤ ls.length → (cat (ls.take j)).length ≤ K → (j = ls.length ∨ K < (cat (ls.take (j + 1))).length) →
    ∀ f, ((cat ls).take K).length ≤ f → scanF f ((cat ls).take K) = (ls.take j, (cat (ls.take j)).length) := by
  intro ls
  induction ls with
  | nil =>
    intro _ K j hj _ _ f _
    have : j = 0 := by simpa using hj
    subst this
    cases f with
    | zero => rfl
    | succ f => simp [scanF, cat, firstL]
  | cons b ls ih =>
    intro hb K j hj hK hmax f hf
    have hbl := hb b (List.mem_cons_self ..)
    cases j with
    | zero =>
      rcases hmax with h | h
      · simp at h
      · have h' : K < b.length + 6 := by
          rw [List.take_succ_cons, List.take_zero, cat_cons] at h
          simpa [cat, wrapL_length] using h
        have hn : firstL ((cat (b :: ls)).take K) = none := by rw [cat_cons]; exact first_torn _ K hbl.2 h'
        cases f with
        | zero => rfl
        | succ f => simp only [scanF, hn]; rfl
    | succ j =>
      rw [List.take_succ_cons, cat_cons, List.length_append, wrapL_length] at hK
      have e1 : (cat (b :: ls)).take K = wrapL b ++ (cat ls).take (K - (b.length + 6)) := by
        rw [cat_cons, List.take_append, wrapL_length, List.take_of_length_le (by rw [wrapL_length]; omega)]
      rw [e1] at hf ⊢
      rw [List.length_append, wrapL_length] at hf
      obtain ⟨g, rfl⟩ : ∃ g, f = g + 1 := ⟨f - 1, by omega⟩
      have hd : (wrapL b ++ (cat ls).take (K - (b.length + 6))).drop (b.length + 6) = (cat ls).take (K - (b.length + 6)) := by
        rw [List.drop_append, wrapL_length, List.drop_of_length_le (by rw [wrapL_length]; omega)]; simp
      have hr := ih (fun x hx => hb x (List.mem_cons_of_mem _ hx)) (K - (b.length + 6)) j (by simpa using hj) (by omega) (by
        rcases hmax with h | h
        · exact .inl (by simpa using h)
        · rw [List.take_succ_cons, cat_cons, List.length_append, wrapL_length] at h
          exact .inr (by omega)) g (by omega)
      simp only [scanF, first_wrap _ hbl.1 hbl.2, hd, hr]
      rw [List.take_succ_cons, cat_cons, List.length_append, wrapL_length]

/-- What the loop has, of the first k. -/
def TornIn (ls : List (List Int)) (keep : Int) (w : World) (k : Nat) (v5 : Value) (j : Nat) (wr : World) : Prop :=
  Below w.heap.size w wr ∧ Rep.Own (Rep.int .u8) 5 w.heap.size nob wr v5 (cat (ls.take k)) ∧ j ≤ k ∧ (1 ≤ j → ((cat (ls.take j)).length : Int) ≤ keep) ∧
    (∀ m, j < m → m ≤ k → keep < ((cat (ls.take m)).length : Int)) ∧ (∀ m (h : m < ls.length), m < k → 1 ≤ ls[m].length ∧ ls[m].length ≤ 60)
theorem cat_le {ls : List (List Int)} {k : Nat} (hk : k ≤ ls.length) (h : ∀ m (hm : m < ls.length), m < k → 1 ≤ ls[m].length ∧ ls[m].length ≤ 60) : (cat (ls.take k)).length ≤ 66 * k := by
  induction k with
  | zero => simp [cat]
  | succ k ih =>
    have := ih (by omega) (fun m hm hmk => h m hm (by omega))
    have h1 := h k (by omega) (by omega)
    rw [cat_take_succ (by omega), List.length_append, wrapL_length]; omega

set_option maxHeartbeats 4000000 in
theorem torn_many (A : Option Addr) (c : Nat) (ls : List (List Int)) (keep : Int) (w : World) (hm : 40 < ls.length) :
    Calls Try.prog 4 #[.slice A ls.length c, .int .i64 keep] w fun e w' => e = .returned (.bool true) ∧ Below w.heap.size w w' := by
  have t1 : decide (40 < (ls.length : Int)) = true := decide_eq_true (by omega)
  clear hm
  go_enter Try.func4, Try.ntmps4
  go_wp2_with (go_at_call 15; refine (alive_calls _).mono ?_; rintro e w' ⟨rfl, hb⟩)
  go_ret
  exact ⟨rfl, hb⟩

set_option maxHeartbeats 8000000 in
set_option maxRecDepth 100000 in
theorem torn_few (A : Option Addr) (c : Nat) (ls : List (List Int)) (keep : Int) (w : World) (hc : ls.length ≤ c) (hm : ls.length ≤ 40) (hr : Rep.Row (Rep.slice (Rep.int .u8)) (fun _ => True) w A ls) :
    Calls Try.prog 4 #[.slice A ls.length c, .int .i64 keep] w fun e w' => e = .returned (.bool true) ∧ Below w.heap.size w w' := by
  have t1 : decide (40 < (ls.length : Int)) = false := decide_eq_false (by omega)
  have HR := Hold.mk hr
  have HC := Hold.mk hc
  have HM := Hold.mk hm
  have hmi : (ls.length : Int) ≤ 40 := by omega
  clear hr hc hm
  go_enter Try.func4, Try.ntmps4
  go_wp2
  go_loopw [5, 6, 7, 8] (fun v5 v6 v7 v8 wr => ∃ k j : Nat, k ≤ ls.length ∧ v8 = .int .i64 (k : Int) ∧ v6 = .int .i64 (j : Int) ∧ v7 = .int .i64 ((cat (ls.take j)).length : Int) ∧ Hold (TornIn ls keep w k v5 j wr)) (fun _ _ _ v8 _ => ls.length - (intOf v8).toNat)
  case atStart => exact ⟨0, 0, by omega, rfl, rfl, by simp [cat], ⟨Below.refl _ _, by simpa [cat] using Rep.Own.nil _ _ _ _ _, by omega, by omega, by omega, by omega⟩⟩
  case round =>
    obtain ⟨k, j, hk, rfl, rfl, rfl, HT⟩ := hrel
    by_cases hlt : k < ls.length
    · obtain ⟨ad, A1, c1, rfl, hcell, hl1, hn1, hrow⟩ := row_bytes HR.out k hlt
      obtain ⟨hb, ho, hjk, hj1, hj2, hlen⟩ := HT.out
      have hblk := HR.out.2 (by omega)
      have hcell2 := (hb.cell (p := ad.add k) (by
        obtain ⟨ad', e, _, hlt', _⟩ := hblk
        cases e
        rw [Rep.add_block]; exact hlt')).trans hcell
      obtain ⟨x, hx⟩ : ∃ x, ls[k] = x := ⟨_, rfl⟩
      rw [hx] at hcell2 hrow hl1
      have HX := Hold.mk hx
      have HR1 := Hold.mk (hrow.below hb)
      have HN1 := Hold.mk hn1
      have HB := Hold.mk hb
      have hlk : (k : Int) < (ls.length : Int) := by omega
      have hlkn : k < ls.length := hlt
      have HLT := Hold.mk hlt
      clear hblk hcell hrow hn1 hx hb ho hjk hj1 hj2 hlen hl1
      by_cases g1 : (x.length : Int) < 1
      · have g1b := decide_eq_true g1
        clear g1
        go_wp2_with (go_at_call 15; refine (alive_calls _).mono ?_; rintro e w' ⟨rfl, hb⟩)
        go_ret
        exact ⟨rfl, HB.out.trans (hb.mono HB.out.size)⟩
      · by_cases g2 : 60 < (x.length : Int)
        · have g1b := decide_eq_false g1
          have g2b := decide_eq_true g2
          clear g1 g2
          go_wp2_with (go_at_call 15; refine (alive_calls _).mono ?_; rintro e w' ⟨rfl, hb⟩)
          go_ret
          exact ⟨rfl, HB.out.trans (hb.mono HB.out.size)⟩
        · have g1b := decide_eq_false g1
          have g2b := decide_eq_false g2
          have HG1 := Hold.mk g1
          have HG2 := Hold.mk g2
          have hx60 : (x.length : Int) ≤ 60 := by omega
          clear g1 g2
          go_wp2_with fail
          refine (wrap_yes A1 c1 x _ _ HR1.out HN1.out (by have := HG1.out; omega) (by have := HG2.out; omega)).mono ?_
          rintro e w1 ⟨A2, c2, rfl, hn2, ho2, hb2⟩
          obtain ⟨hb, ho, hjk, hj1, hj2, hlen⟩ := HT.out
          obtain ⟨L, hL⟩ : ∃ L, cat (ls.take k) = L := ⟨_, rfl⟩
          rw [hL] at ho
          have hLl : L.length ≤ 66 * k := by rw [← hL]; exact cat_le hk hlen
          have hL2 : cat (ls.take (k + 1)) = L ++ wrapL x := by rw [cat_take_succ hlt, hL, HX.out]
          have HL2 := Hold.mk hL2
          have HLl := Hold.mk hLl
          have HO := Hold.mk (ho.below hb2)
          have HOlt := Hold.mk (fun k hk => (ho.block_lt k hk).2)
          have HB1 := Hold.mk (hb.trans (hb2.mono hb.size))
          have HSz := Hold.mk hb2.size
          have HRW := Hold.mk ho2.row
          have HOW := Hold.mk (fun k hk => (ho2.block_lt k hk).1)
          have HN2 := Hold.mk hn2
          have hwl := wrapL_length x
          have HWL := Hold.mk hwl
          rw [hwl]
          clear hb ho hjk hj1 hj2 hlen hL hL2 hLl hb2 ho2 hn2 hwl
          go_wp2_with (at_builtin; refine Rep.wp_append (Rep.int .u8) rfl (.tmp 55) (.tmp 56) 22 5 (.int .u8 0) 1 rfl Try.underlying22 info_u8 rfl (by decide) (by decide) w.heap.size u5 L (wrapL x) A2 (x.length + 6) c2 rfl rfl (by rw [wrapL_length]) HO.out HRW.out ?c1 HN2.out HB1.out.size ?c2 ?_)
          case c1 =>
            intro k hk _ he
            have := HOlt.out k he.symm
            rcases hk with hk | hk
            · exact hk
            · have := HOW.out k hk; omega
          case c2 => have := HLl.out; have := HWL.out; have := HM.out; have := HG2.out; omega
          intro v5 w5 hown5 hg5 _
          have hown5 := hown5.flat nob (Rep.flat_int _)
          obtain ⟨A5, c5, hv5, _⟩ := hown5.form
          have hb5 : Below w.heap.size w w5 := HB1.out.grown hg5 HB1.out.size (fun k h => (HO.out.block_lt k h).1)
          rw [← HL2.out] at hown5 hv5
          obtain ⟨n5, hn5⟩ : ∃ n5, (cat (ls.take (k + 1))).length = n5 := ⟨_, rfl⟩
          rw [hn5] at hv5
          subst hv5
          have hn5i : (n5 : Int) ≤ 2640 := by
            rw [HL2.out, List.length_append, HWL.out] at hn5
            have := HLl.out; have := HM.out; have := HG2.out; omega
          have HN5 := Hold.mk hn5
          have HO5 := Hold.mk hown5
          have HB5 := Hold.mk hb5
          clear hg5 hown5 hb5 hn5
          by_cases t3 : (n5 : Int) ≤ keep
          · have t3b := decide_eq_true t3
            have T3 := Hold.mk t3
            clear t3
            go_wp2
            refine ⟨⟨k + 1, k + 1, by omega, by go_num, by go_num, by rw [HN5.out], ⟨HB5.out, HO5.out, by omega, fun _ => by rw [HN5.out]; exact T3.out, by omega, ?_⟩⟩, by simp [intOf]; omega⟩
            intro m hm hmk
            by_cases e : m = k
            · subst e
              rw [HX.out]
              have := HG1.out; have := HG2.out; omega
            · exact HT.out.2.2.2.2.2 m hm (by omega)
          · have t3b := decide_eq_false t3
            have T3 := Hold.mk t3
            clear t3
            go_wp2
            refine ⟨⟨k + 1, j, by omega, by go_num, rfl, rfl, ⟨HB5.out, HO5.out, by have := HT.out.2.2.1; omega, HT.out.2.2.2.1, ?_, ?_⟩⟩, by simp [intOf]; omega⟩
            · intro m hjm hmk
              by_cases e : m = k + 1
              · subst e
                rw [HN5.out]
                have := T3.out; omega
              · exact HT.out.2.2.2.2.1 m hjm (by omega)
            · intro m hm hmk
              by_cases e : m = k
              · subst e
                rw [HX.out]
                have := HG1.out; have := HG2.out; omega
              · exact HT.out.2.2.2.2.2 m hm (by omega)
    · obtain rfl : k = ls.length := by omega
      obtain ⟨hb, ho, hjk, hj1, hj2, hlen⟩ := HT.out
      have hall : ∀ b ∈ ls, 1 ≤ b.length ∧ b.length ≤ 65535 := by
        intro b hbm
        obtain ⟨i, hi, rfl⟩ := List.getElem_of_mem hbm
        have := hlen i hi hi
        omega
      have hcl : (cat ls).length ≤ 66 * ls.length := by
        have := cat_le (Nat.le_refl _) hlen
        rwa [List.take_length] at this
      rw [List.take_length] at ho
      have hscan : ∀ K : Nat, (keep < 0 → K = 0) → (0 ≤ keep → (K : Int) ≤ keep ∧ ((K : Int) = keep ∨ K = (cat ls).length)) → scanL ((cat ls).take K) = (ls.take j, (cat (ls.take j)).length) := by
        intro K hK1 hK2
        have htake : ∀ m, m ≤ ls.length → (cat (ls.take m)).length ≤ (cat ls).length := by
          intro m _
          have : cat ls = cat (ls.take m) ++ cat (ls.drop m) := by unfold cat; rw [← List.flatten_append, ← List.map_append, List.take_append_drop]
          rw [this, List.length_append]; omega
        unfold scanL
        refine scan_torn ls hall K j hjk ?_ ?_ _ (Nat.le_refl _)
        · by_cases hj0 : j = 0
          · subst hj0; simp [cat]
          · have h1 := hj1 (by omega)
            have h2 := htake j hjk
            rcases (hK2 (by omega)).2 with h | h <;> omega
        · by_cases hjn : j = ls.length
          · exact .inl hjn
          · have h1 := hj2 (j + 1) (by omega) (by omega)
            have h2 := htake (j + 1) (by omega)
            by_cases hk0 : 0 ≤ keep
            · rcases hK2 hk0 with ⟨h3, h | h⟩ <;> omega
            · have h0 := hall ls[0] (List.getElem_mem (by omega))
              have hj0 : j = 0 := by
                by_cases h : j = 0
                · exact h
                · have := hj1 (by omega); omega
              subst hj0
              rw [cat_take_succ (by omega), List.length_append, wrapL_length]
              have := hK1 (by omega)
              omega
      obtain ⟨o, hoe⟩ : ∃ o, ls.take j = o := ⟨_, rfl⟩
      obtain ⟨q, hqe⟩ : ∃ q, (cat o).length = q := ⟨_, rfl⟩
      rw [hoe, hqe] at hscan
      rw [hoe, hqe]
      have HOE := Hold.mk hoe
      have hol : o.length = j := by rw [← hoe, List.length_take]; omega
      have HOL := Hold.mk hol
      have HQ := Hold.mk (show q ≤ 2640 by
        rw [← hqe, ← hoe]
        have := cat_le hjk (fun m hm hmk => hlen m hm (by omega))
        have := HM.out
        omega)
      clear hoe hqe hol
      have HSC := Hold.mk hscan
      obtain ⟨A5, c5, hv5, hc5⟩ := ho.form
      subst hv5
      have hn5 := ho.cap_nil _ _ _ rfl
      have HO := Hold.mk ho
      have HB := Hold.mk hb
      have HJ := Hold.mk hjk
      have HCL := Hold.mk hcl
      have HC5 := Hold.mk hc5
      have HN5 := Hold.mk hn5
      have hcli : ((cat ls).length : Int) ≤ 2640 := by have := HM.out; omega
      have hji : (j : Int) ≤ (ls.length : Int) := by omega
      have hqi : (q : Int) ≤ 2640 := by have := HQ.out; omega
      have HJ1 := Hold.mk hj1
      clear hb ho hjk hj1 hj2 hlen hall hcl hscan hc5 hn5
      have hsz : (Try.prog.info? 22).map (·.size) = some 1 := by kernel_rfl
      have hszb : (Try.prog.info? 5).map (·.size) = some 1 := by kernel_rfl
      by_cases k0 : 0 ≤ keep
      · have s2 := fun W => Rep.run_cut_to (P := Try.prog) 27 22 .i64 Try.underlying27 hsz A ls.length c (j : Int) (by omega) (by have := HC.out; omega) W
        rw [show ((j : Int)).toNat = j from rfl] at s2
        obtain ⟨K, rfl⟩ := Int.eq_ofNat_of_zero_le k0
        have b0 : decide (0 ≤ (K : Int)) = true := decide_eq_true k0
        have b1 : decide ((K : Int) < 0) = false := decide_eq_false (by omega)
        by_cases k1 : (K : Int) < ((cat ls).length : Int)
        · have b2 : decide (K < (cat ls).length) = true := decide_eq_true (by omega)
          have s3 := fun W => Rep.run_cut_to (P := Try.prog) 22 5 .i64 Try.underlying22 hszb A5 (cat ls).length c5 (K : Int) (by omega) (by have := HC5.out; omega) W
          rw [show ((K : Int)).toNat = K from rfl] at s3
          have hs := HSC.out K (by omega) (fun _ => ⟨by omega, .inl rfl⟩)
          have HS := Hold.mk hs
          have HK := Hold.mk k1
          have e1 : Hold (K = ((cat ls).take K).length ∧ ((cat ls).take K).length ≤ c5 ∧ ((cat ls).take K).length ≤ 1000000) := ⟨by rw [List.length_take]; have := HC5.out; omega⟩
          have HR5 := Hold.mk (HO.out.row.take K)
          clear hs k0 k1 hsz hszb
          go_wp2_with fail
          refine (scan_at A5 K c5 ((cat ls).take K) o q _ wr e1.out.1 HS.out HR5.out e1.out.2.1 e1.out.2.2).mono ?_
          rintro e w6 ⟨A6, c6, rfl, hb6, _, ho6⟩
          have HR6 := Hold.mk ho6.row
          have HB6 := Hold.mk (HB.out.trans (hb6.mono HB.out.size))
          clear hb6 ho6
          go_wp2_with fail
          refine (same_at A6 A _ j c6 c o o _ _ _ rfl HOL.out.symm HR6.out (HOE.out ▸ (HR.out.below HB6.out).take j)).mono ?_
          rintro e w7 ⟨rfl, ⟨n7, rfl⟩⟩
          rw [decide_eq_true rfl]
          go_wp2_with (go_at_call 15; refine (alive_calls _).mono ?_; rintro e w' ⟨rfl, hb⟩)
          go_ret
          exact ⟨by simp, HB6.out.trans (((below_drewN w6 n7).trans hb).mono HB6.out.size)⟩
        · have b2 : decide (K < (cat ls).length) = false := decide_eq_false (by omega)
          have hs := HSC.out (cat ls).length (by omega) (fun _ => ⟨by omega, .inr rfl⟩)
          rw [List.take_length] at hs
          have HS := Hold.mk hs
          have HL5 : Hold ((cat ls).length ≤ 1000000) := ⟨by omega⟩
          clear hs k0 k1 hsz hszb
          go_wp2_with fail
          refine (scan_at A5 _ c5 (cat ls) o q _ wr rfl HS.out HO.out.row HC5.out HL5.out).mono ?_
          rintro e w6 ⟨A6, c6, rfl, hb6, _, ho6⟩
          have HR6 := Hold.mk ho6.row
          have HB6 := Hold.mk (HB.out.trans (hb6.mono HB.out.size))
          clear hb6 ho6
          go_wp2_with fail
          refine (same_at A6 A _ j c6 c o o _ _ _ rfl HOL.out.symm HR6.out (HOE.out ▸ (HR.out.below HB6.out).take j)).mono ?_
          rintro e w7 ⟨rfl, ⟨n7, rfl⟩⟩
          rw [decide_eq_true rfl]
          go_wp2_with (go_at_call 15; refine (alive_calls _).mono ?_; rintro e w' ⟨rfl, hb⟩)
          go_ret
          exact ⟨by simp, HB6.out.trans (((below_drewN w6 n7).trans hb).mono HB6.out.size)⟩
      · have s2 := fun W => Rep.run_cut_to (P := Try.prog) 27 22 .i64 Try.underlying27 hsz A ls.length c 0 (by omega) (by omega) W
        rw [show (0 : Int).toNat = 0 from rfl] at s2
        have b0 : decide (0 ≤ keep) = false := decide_eq_false k0
        have b1 : decide (keep < 0) = true := decide_eq_true (by omega)
        have hs : scanL [] = ([], 0) := rfl
        have HS := Hold.mk hs
        clear hs k0 hsz hszb
        go_wp2_with fail
        refine (scan_at none 0 0 [] [] 0 (fun _ => True) _ rfl HS.out (Rep.Row.nil _ _ _ _) (by simp) (by simp)).mono ?_
        rintro e w6 ⟨A6, c6, rfl, hb6, _, ho6⟩
        have HR6 := Hold.mk ho6.row
        have HB6 := Hold.mk (HB.out.trans (hb6.mono HB.out.size))
        clear hb6 ho6
        go_wp2_with fail
        refine (same_at A6 A _ 0 c6 c [] (ls.take 0) _ _ _ rfl (by simp) HR6.out ((HR.out.below HB6.out).take 0)).mono ?_
        rintro e w7 ⟨rfl, ⟨n7, rfl⟩⟩
        rw [decide_eq_true (by simp)]
        go_wp2_with (go_at_call 15; refine (alive_calls _).mono ?_; rintro e w' ⟨rfl, hb⟩)
        go_ret
        exact ⟨by simp, HB6.out.trans (((below_drewN w6 n7).trans hb).mono HB6.out.size)⟩

/-- FrameTorn, of any records. -/
theorem torn_law (A : Option Addr) (c : Nat) (ls : List (List Int)) (keep : Int) (w : World) (hl : ls.length ≤ c) (_hn : A = none → c = 0) (hr : Rep.Row (Rep.slice (Rep.int .u8)) (fun _ => True) w A ls) (_hk : (Lit.int .i64 keep).wf = true) :
    Calls Try.prog 4 #[.slice A ls.length c, .int .i64 keep] w fun e w' => e = .returned (.bool true) ∧ Below w.heap.size w w' := by
  by_cases h : 40 < ls.length
  · exact torn_many A c ls keep w h
  · exact torn_few A c ls keep w hl (by omega) hr
end Go.Proofs.Ytgeeicpjphdolaa.Frame
