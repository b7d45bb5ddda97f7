/- Package preds' Of: sorted, thinned, compared; by its walk. -/
import Derived.Test.YtebhclgnpnlekaaPrLaw
import Derived.Test.YtebhclgnpnlekaaSortS
import Derived.Test.YtebhclgnpnlekaaCatC
namespace Go.Proofs.Ytebhclgnpnlekaa.Pr
open Go.RowKit Go.Proofs.Ytebhclgnpnlekaa.B Go.Proofs.Ytebhclgnpnlekaa.Cmd Go.Proofs.Ytebhclgnpnlekaa.Agg Go.Sort
open Go.Proofs.Ytebhclgnpnlekaa.Rd (zeroCmd)
open Go.Proofs.Ytebhclgnpnlekaa.Sorts (RC enc cf enc_len enc_one byN Merged)

/-- The command. -/
def cv (x : RC) : CmdD := x.val
def mkRC (x : CmdD) (h : 0 ≤ x.id ∧ x.id ≤ 4111) : RC := ⟨x, h⟩
theorem cv_mk (x : CmdD) (h : 0 ≤ x.id ∧ x.id ≤ 4111) : cv (mkRC x h) = x := rfl
theorem flatK_flatC (d : Array RC) : flatK enc 7 d = (flatC (d.toList.map cv)).toArray := by
  apply Array.ext
  · rw [size_flatK]; simp [flatC_len]
  · intro t h1 h2
    have ht : t < d.size * 7 := by rwa [size_flatK] at h1
    have h3 := get_flatK enc 7 d t ht
    rw [getElem!_pos (flatK enc 7 d) t h1] at h3
    rw [h3]
    have hq : t / 7 < d.size := by omega
    have hl : t / 7 < (d.toList.map cv).length := by rw [List.length_map, Array.length_toList]; exact hq
    have h4 := flatC_cell (d.toList.map cv) (t / 7) hl (t % 7) (by omega)
    rw [show t / 7 * 7 + t % 7 = t by omega] at h4
    rw [List.getElem_toArray]
    have h5 : t < (flatC (d.toList.map cv)).length := by simpa using h2
    rw [List.getElem?_eq_getElem h5] at h4
    have h6 : (d.toList.map cv)[t / 7] = cv (d[t / 7]!) := by
      rw [getElem!_pos d _ hq]; simp
    rw [h6] at h4
    have h7 : t % 7 < (enc d[t / 7]!).length := by rw [enc_len]; omega
    rw [getElem!_pos (enc d[t / 7]!) (t % 7) h7]
    have h8 := h4.symm
    rw [show (cv (d[t / 7]!)).cells = enc d[t / 7]! from rfl] at h8
    rw [List.getElem?_eq_getElem h7] at h8
    exact Option.some.inj h8
/-- The commands of a row, each with a name that may be. -/
theorem exists_rc (l : List CmdD) (h : ∀ x ∈ l, 0 ≤ x.id ∧ x.id ≤ 4111) : ∃ d : Array RC, d.toList.map cv = l := by
  induction l with
  | nil => exact ⟨#[], rfl⟩
  | cons x l ih =>
    obtain ⟨d, hd⟩ := ih fun y hy => h y (List.mem_cons_of_mem _ hy)
    refine ⟨(mkRC x (h x (List.mem_cons_self ..)) :: d.toList).toArray, ?_⟩
    rw [List.toList_toArray, List.map_cons, hd, cv_mk]
theorem CpAt.rowK {w0 w : World} {b c : Nat} {rest : List Value} {d : Array RC} (h : CpAt w0 w b c (d.toList.map cv) rest) : RowK enc 7 w b 0 d := by
  refine ⟨enc_len, enc_one, fun j hj => ?_, h.bs.lt 0 rfl⟩
  refine ⟨?_, h.bs.fz 0 rfl _⟩
  rw [Nat.zero_add, h.bs.cell 0 rfl]
  show _ = some (flatK enc 7 d)[j]!
  have hj' : j < (flatC (d.toList.map cv)).length := by
    rw [flatC_len, List.length_map, Array.length_toList]
    rwa [size_flatK] at hj
  rw [getElem!_pos (flatK enc 7 d) j hj, List.getElem?_toArray, List.getElem?_append_left hj', List.getElem?_eq_getElem hj']
  congr 1
  have := flatK_flatC d
  simp [this]
theorem putCells_row (F : Array Value) (xs rest : List Value) (h : F.size = xs.length) : putCells id 0 F (xs ++ rest).toArray = (F.toList ++ rest).toArray := by
  apply Array.ext
  · simp [putCells, h]
  · intro k h1 h2
    simp only [putCells, Array.getElem_mapIdx, List.getElem_toArray]
    by_cases hk : k < F.size
    · rw [if_pos ⟨Nat.zero_le _, by omega⟩, Nat.sub_zero, getElem!_pos F k hk, List.getElem_append_left (by simpa using hk)]
      simp
    · rw [if_neg (by omega), List.getElem_append_right (by omega), List.getElem_append_right (by simpa using hk)]
      congr 1
      simp [h]
theorem fr_putRow (w : World) (F : Array Value) (b o : Nat) : Fr (fun k => k = b) w (putRow id w b o F) := by
  refine ⟨rfl, rfl, rfl, by rw [size_putRow]; exact Nat.le_refl _, fun k _ hn => ?_⟩
  simp only [putRow, mapBlock]
  rw [Array.getElem?_modify, if_neg (fun e => hn e.symm)]
/-- What a sort leaves. -/
theorem CpAt.sorted {w0 w w' : World} {b c : Nat} {rest : List Value} {d d' : Array RC} (h : CpAt w0 w b c (d.toList.map cv) rest) (hs : SWK enc 7 w b 0 d' w') (hz : d'.size = d.size) (hw : ∀ x ∈ d'.toList.map cv, x.wf) : CpAt w0 w' b c (d'.toList.map cv) rest := by
  obtain ⟨n, os, rfl⟩ := hs
  have hl : (d'.toList.map cv).length = (d.toList.map cv).length := by simp [hz]
  refine ⟨?_, by rw [hl]; exact h.size, h.cap, hw⟩
  have h1 : Bs w0 (Sort.ahead w n) _ := h.bs.step ⟨rfl, rfl, rfl, Nat.le_refl _, fun _ _ => rfl⟩
  have hb1 := (h1.at_ 0 b _ _ rfl).1
  have h2 : Bs w0 (putRow id (Sort.ahead w n) b 0 (flatK enc 7 d')) _ := h1.put (i := 0) (C' := (flatC (d'.toList.map cv) ++ rest).toArray) rfl (fr_putRow _ _ b 0) (by
    simp only [putRow, mapBlock]
    rw [Array.getElem?_modify, if_pos rfl, hb1, Option.map_some, onCells, putCells_row _ _ _ (by rw [flatK_flatC, List.size_toArray, flatC_len, flatC_len, hl]), flatK_flatC])
  exact h2.step ⟨rfl, rfl, rfl, Nat.le_trans (Nat.le_add_right _ os.size) (Nat.le_of_eq (size_grow _ os).symm), fun k hk => heap_grow_old _ _ hk⟩
/-- What an append of one's own holds. -/
theorem own_cp {w0 w : World} {A : Option Addr} {c : Nat} {xs : List CmdD} (h : Rep.Own cmdRep 45 w0.heap.size nob w (.slice A xs.length c) xs) (hb : Below w0.heap.size w0 w) (hA : A ≠ none) : ∃ b rest, A = some ⟨b, 0, none⟩ ∧ CpAt w0 w b c xs rest := by
  obtain ⟨cells, ⟨hl, ho⟩, hx⟩ := h
  rcases ho with ⟨e, _⟩ | ⟨g, cap, cur, e, hg, hh, h1, h2, h3, h4⟩
  · injection e with e; exact absurd e hA
  · injection e with e1 e2 e3
    subst e1 e3
    have hf : cells = flatC xs := by
      apply List.ext_getElem?
      intro t
      by_cases ht : t < xs.length * 7
      · have hq : t / 7 < xs.length := by omega
        obtain ⟨cs, ⟨rfl, _⟩, hc⟩ := hx (t / 7) _ (List.getElem?_eq_getElem hq)
        have h5 := flatC_cell xs (t / 7) hq (t % 7) (by omega)
        have h6 : t % 7 < (CmdD.cells xs[t / 7]).length := by show _ < 7; omega
        have h7 := hc (t % 7) _ (List.getElem?_eq_getElem h6)
        rw [show t / 7 * 7 + t % 7 = t by omega] at h5
        rw [show t / 7 * cmdRep.sz + t % 7 = t by rw [cmdRep_sz]; omega] at h7
        rw [h7, h5, List.getElem?_eq_getElem h6]
      · rw [List.getElem?_eq_none (by rw [hl, cmdRep_sz]; omega), List.getElem?_eq_none (by rw [flatC_len]; omega)]
    refine ⟨g, cur.toList.drop (xs.length * 7), rfl, ⟨hb, fun i b T C hi => ?_, fun i j x y hi hj _ => ?_⟩, ?_, h2, fun x hx' => ?_⟩
    · cases i with
      | succ i => simp at hi
      | zero =>
        cases hi
        refine ⟨?_, hg⟩
        rw [hh, ← hf, ← h4, cmdRep_sz, List.take_append_drop, Array.toArray_toList]
    · have := (List.getElem?_eq_some_iff.1 hi).1
      have := (List.getElem?_eq_some_iff.1 hj).1
      simp at *
      omega
    · rw [cmdRep_sz] at h3
      have hc : cur.toList.length = c * 7 := by simpa using h3
      rw [List.length_drop, hc]
      have := Nat.mul_le_mul_right 7 h1
      omega
    · obtain ⟨i, hi, rfl⟩ := List.getElem_of_mem hx'
      obtain ⟨cs, hk, _⟩ := hx i _ (List.getElem?_eq_getElem hi)
      exact hk.2
theorem merged_law {d d' : Array RC} (h : Merged d 0 d.size d') : d'.size = d.size ∧ (∀ x, x ∈ d'.toList.map cv ↔ x ∈ d.toList.map cv) ∧ (d'.toList.map cv).Pairwise leI := by
  obtain ⟨⟨h1, _, h2⟩, h3⟩ := h
  have e1 : (d'.extract 0 d.size) = d' := by rw [← h1]; simp
  have e2 : (d.extract 0 d.size) = d := by simp
  rw [e1, e2] at h2
  refine ⟨h1, fun x => ?_, ?_⟩
  · exact (h2.map cv).mem_iff
  · rw [List.pairwise_iff_getElem]
    intro i j hi hj hij
    simp only [List.length_map, Array.length_toList] at hi hj
    have := h3 i j (Nat.zero_le _) hij (by omega)
    rw [getElem!_pos d' j hj, getElem!_pos d' i hi] at this
    have := of_decide_eq_false this
    simp only [cf] at this
    show ((d'.toList.map cv)[i]).id ≤ ((d'.toList.map cv)[j]).id
    simp only [List.getElem_map, Array.getElem_toList]
    show (d'[i]).1.id ≤ (d'[j]).1.id
    omega
theorem ok_ids {l : List CmdD} (h : okCmds l = true) : ∀ x ∈ l, 0 ≤ x.id ∧ x.id ≤ 4111 := by
  intro x hx
  have h1 := List.all_eq_true.1 h x hx
  have h2 : named x.id = true := by
    unfold okCmd at h1
    simp only [Bool.and_eq_true] at h1
    exact h1.1.1.1.1.1.1.1
  unfold named at h2
  have := of_decide_eq_true h2
  omega
theorem sort_cp {w0 w : World} {b c : Nat} {rest : List Value} {l : List CmdD} (h : CpAt w0 w b c l rest) (hok : okCmds l = true) (hl : l.length ≤ 1000000) :
    Calls Try.prog 90 #[.slice (some ⟨b, 0, none⟩) l.length c, .func (.func byN) #[] #[]] w fun e w' =>
      e = .returned (.tuple #[]) ∧ ∃ s : List CmdD, Hold (s.length = l.length) ∧ Hold (CpAt w0 w' b c s rest) ∧ Hold ((∀ x, x ∈ s ↔ x ∈ l) ∧ s.Pairwise leI) := by
  obtain ⟨d, hd⟩ := exists_rc l (ok_ids hok)
  subst hd
  have hz : (d.toList.map cv).length = d.size := by simp
  rw [hz] at hl
  have := Sorts.sort_calls b 0 c d w h.rowK hl
  rw [hz]
  refine this.mono ?_
  rintro e w' ⟨he, d', S, M⟩
  obtain ⟨m1, m2, m3⟩ := merged_law M.out
  refine ⟨he, d'.toList.map cv, ⟨by simp [m1]⟩, ⟨h.sorted S.out m1 fun x hx => h.wf x ((m2 x).1 hx)⟩, ⟨m2, m3⟩⟩
theorem fold_cases {l s : List CmdD} (hm : ∀ x, x ∈ s ↔ x ∈ l) (hs : s.Pairwise leI) : ∃ e, ded s = e ∧ (∀ i (hi : i + 1 < e.length), (e[i]'(by omega)).id = e[i + 1].id → foldR [] l = none) ∧ ((∀ i (hi : i + 1 < e.length), (e[i]'(by omega)).id ≠ e[i + 1].id) → foldR [] l = some e) :=
  ⟨ded s, rfl, fun _ hi he => twice_none hm hi he, once_some hm hs⟩
theorem row_at0 {I : Nat → Prop} {w : World} {b : Nat} {xs : List CmdD} (h : Rep.Row cmdRep I w (some ⟨b, 0, none⟩) xs) (i : Nat) (hi : i < xs.length) (x : CmdD) (hx : xs[i] = x) : CmdAt w ⟨b, i * 7, none⟩ x := by
  subst hx
  obtain ⟨ad, p, e, hp, _, hc⟩ := row_cmd h i hi
  cases e
  rw [add0, Nat.zero_add] at hp
  rw [hp]; exact hc
set_option maxHeartbeats 8000000 in
set_option maxRecDepth 100000 in
/-- Package preds' Of. -/
theorem of_calls (A : Option Addr) (c n : Nat) (l : List CmdD) (I : Nat → Prop) (w : World) (hn : n = l.length) (h : Rep.Row cmdRep I w A l) (hnil : A = none → c = 0) (hl : l.length ≤ 900000) :
    Calls Try.prog 39 #[.slice A n c] w (OfSaid l w) := by
  subst hn
  have H := Hold.mk h
  have HL := Hold.mk hl
  have HNil := Hold.mk hnil
  have hm := h.len_le
  obtain ⟨ok, hok⟩ : ∃ b, okCmds l = b := ⟨_, rfl⟩
  have HR := Hold.mk (Preds.cmdRight_calls A c l.length l I w rfl h ok hok)
  have HOf : Hold (ofS l = if ok = true then (match foldR [] l with | none => (([], 6) : List CmdD × Int) | some o => if 1024 < o.length then ([], 4) else (o, 0)) else ([], 1)) := ⟨by rw [ofS, hok]; rfl⟩
  have HOk := Hold.mk hok
  clear h hl hok hnil
  cases ok
  · go_enter Try.func39, Try.ntmps39
    go_wp2_with fail
    refine HR.out.mono ?_
    rintro e w1 ⟨rfl, HB1⟩
    go_wp2
    go_ret2
    exact ⟨_, by rw [HOf.out]; rfl, ⟨by rw [HOf.out]; exact ⟨Rep.Own.nil _ _ _ _ _, HB1.out⟩⟩⟩
  · go_enter Try.func39, Try.ntmps39
    go_wp2_with fail
    refine HR.out.mono ?_
    rintro e w1 ⟨rfl, HB1⟩
    obtain ⟨g, hg⟩ : ∃ g, w1.heap.size = g := ⟨_, rfl⟩
    obtain ⟨W1, hW1⟩ : ∃ W, w1.alloc (.cells #[] 45) = W := ⟨_, rfl⟩
    have hbl : Below w.heap.size w W1 := by rw [← hW1]; exact HB1.out.alloc HB1.out.size _
    have HLit : Hold (Rep.Own cmdRep 45 w.heap.size nob W1 (.slice (some ⟨g, 0, none⟩) 0 0) []) := ⟨by rw [← hW1, ← hg]; exact Rep.Own.lit _ _ _ _ _ HB1.out.size⟩
    have HBl := Hold.mk hbl
    have HRv : Hold (Rep.RowV cmdRep nob W1 A l) := ⟨CatC.row_flatV (H.out.below hbl)⟩
    have hsz : (l.length + 0) * 56 ≤ 140737488355328 := by have := HL.out; omega
    have HSz := Hold.mk hsz
    clear hbl hsz
    go_wp2_with (first
      | (at_builtin; refine Rep.wp_more cmdRep rfl (.tmp 9) (.tmp 10) 23 45 CatC.zc 56 rfl Try.underlying23 info_cmd Rd.cmd_zs Rd.cmd_sz0 (by decide) w.heap.size nob nob (.slice (some ⟨g, 0, none⟩) 0 0) [] l l A _ c rfl rfl rfl rfl HLit.out HRv.out (fun _ h _ => h.elim) HNil.out HBl.out.size ?e2 ?_))
    case e2 => exact Nat.le_trans (Nat.le_of_eq (by simp)) HSz.out
    intro A1 c1 w2 HG
    have hAn : A1 ≠ none := by
      rintro rfl
      rcases HG.out.at_ with h | ⟨k, h, _⟩
      · cases h
      · cases h
    obtain ⟨b, rest, rfl, hcp⟩ := own_cp HG.out.own (HBl.out.trans (HG.out.below (fun k hk => (HLit.out.block_lt k hk).1) HBl.out.size)) hAn
    have HS := Hold.mk (sort_cp hcp HOk.out (by have := HL.out; omega))
    clear hAn hcp HG HRv HLit HBl hW1 hg
    go_wp2_with fail
    refine HS.out.mono ?_
    rintro e w3 ⟨rfl, s, HSl, HC, HM⟩
    have HT := Hold.mk (compact_calls b c1 s rest w w3 HC.out (by rw [HSl.out]; have := HL.out; omega))
    rw [HSl.out] at HT
    clear HS HC
    go_wp2_with fail
    refine HT.out.mono ?_
    rintro e w4 ⟨rfl, HO⟩
    have hel : (ded s).length ≤ 900000 := by
      have h1 := (ded_sub s none).length_le
      have h2 := HSl.out
      have h3 := HL.out
      show (dedP none s).length ≤ _
      omega
    obtain ⟨e, he, hA, hB⟩ := fold_cases (l := l) HM.out.1 HM.out.2
    have HA := Hold.mk hA
    have HB := Hold.mk hB
    rw [he] at HO hel
    rw [he]
    clear he hA hB HT HM HSl
    go_wp2
    go_loopw [5] (fun t wr => ∃ k i : Nat, Hold (k = i + 1) ∧ k ≤ e.length + 1 ∧ t = .int .i64 (k : Int) ∧ Hold (∀ j (hj : j + 1 < e.length), j < i → (e[j]'(by omega)).id ≠ e[j + 1].id) ∧ Hold (CO w wr (.slice (some ⟨b, 0, none⟩) e.length c1) e)) (fun t _ => e.length + 1 - (intOf t).toNat)
    case atStart => exact ⟨1, 0, ⟨rfl⟩, by omega, rfl, ⟨fun j _ h => by omega⟩, HO⟩
    case round =>
      clear HO
      obtain ⟨k, i, HK, hk, rfl, HD, HO⟩ := hrel
      have hki : (k : Int) - 1 = (i : Int) := by have := HK.out; omega
      have hil : i < k := by have := HK.out; omega
      by_cases hlt : k < e.length
      · have l1 : (k : Int) < (e.length : Int) := by omega
        have l2 : (i : Int) < (e.length : Int) := by omega
        obtain ⟨x, hx⟩ : ∃ x, e[i] = x := ⟨_, rfl⟩
        obtain ⟨y, hy⟩ : ∃ x, e[k] = x := ⟨_, rfl⟩
        obtain ⟨c0, _, _, _, _, _, _, _⟩ := row_at0 HO.out.own.row i (by omega) x hx
        obtain ⟨d0, _, _, _, _, _, _, _⟩ := row_at0 HO.out.own.row k hlt y hy
        by_cases hxy : x.id = y.id
        · have b0 : (x.id == y.id) = true := by simp [hxy]
          have HEnd : Hold (ofS l = ([], 6)) := ⟨by
            rw [HOf.out, if_pos (by trivial), HA.out i (by have := HK.out; omega) (by
              obtain rfl := HK.out
              rw [hx, hy]; exact hxy)]⟩
          clear hx hy
          go_wp2
          go_quiet (fail)
          go_wp2
          go_ret2
          exact ⟨_, by rw [HEnd.out]; rfl, ⟨by rw [HEnd.out]; exact ⟨Rep.Own.nil _ _ _ _ _, (HO.out.drewN _).bel⟩⟩⟩
        · have b0 : (x.id == y.id) = false := by simp [hxy]
          have HD1 : Hold (∀ j (hj : j + 1 < e.length), j < k → (e[j]'(by omega)).id ≠ e[j + 1].id) := ⟨fun j hj h => by
            obtain rfl := HK.out
            by_cases hji : j < i
            · exact HD.out j hj hji
            · obtain rfl : j = i := by omega
              rw [hx, hy]; exact hxy⟩
          clear hx hy
          go_wp2
          go_quiet (fail)
          go_wp2
          exact ⟨⟨k + 1, k, ⟨rfl⟩, by omega, by go_num, HD1, ⟨HO.out.drewN _⟩⟩, by simp [intOf]; omega⟩
      · have l1 : ¬ (k : Int) < (e.length : Int) := by omega
        have HF := HB.out fun j hj => HD.out j hj (by have := HK.out; omega)
        by_cases hbig : 1024 < e.length
        · have t1 : decide ((1024 : Int) < (e.length : Int)) = true := decide_eq_true (by omega)
          have t1' : (1024 : Int) < (e.length : Int) := by omega
          have HEnd : Hold (ofS l = ([], 4)) := ⟨by rw [HOf.out, if_pos (by trivial), HF]; exact if_pos hbig⟩
          clear hbig HF
          go_wp2
          go_ret2
          exact ⟨_, by rw [HEnd.out]; rfl, ⟨by rw [HEnd.out]; exact ⟨Rep.Own.nil _ _ _ _ _, HO.out.bel⟩⟩⟩
        · have t1 : decide ((1024 : Int) < (e.length : Int)) = false := decide_eq_false (by omega)
          have t1' : ¬ (1024 : Int) < (e.length : Int) := by omega
          have HEnd : Hold (ofS l = (e, 0)) := ⟨by rw [HOf.out, if_pos (by trivial), HF]; exact if_neg hbig⟩
          clear hbig HF
          go_wp2
          go_ret2
          exact ⟨_, by rw [HEnd.out]; rfl, ⟨by rw [HEnd.out]; exact HO.out⟩⟩
end Go.Proofs.Ytebhclgnpnlekaa.Pr
