/- The document's net by its walks: a net in memory (RefNetAt), and what each method leaves. -/
import Derived.Test.YtgeeicpjphdolaaNetSend
import Derived.Test.YtgeeicpjphdolaaP
namespace Go.Proofs.Ytgeeicpjphdolaa.RefNet
open Go.RowKit Go.Proofs.Ytgeeicpjphdolaa.B
open Go.Proofs.Ytgeeicpjphdolaa.Net (bytesRep info_bytes size_bytes blk_set fits)

/-- The document's net at block m: its frames are read through u, in blocks of I. -/
structure RefNetAt (I : Nat → Prop) (m : Nat) (w : World) (u : Value) (room lost : Int) (ls : List (List Int)) : Prop where
  block : w.heap[m]? = some (.cells #[.int .i64 room, u, .int .i64 lost] 77 (0, 0))
  row : ∃ A c, u = .slice A ls.length c ∧ (A = none → c = 0) ∧ ls.length ≤ c ∧ Rep.Row bytesRep I w A ls
  ok : 1 ≤ room ∧ room ≤ 4096 ∧ (ls.length : Int) ≤ room

section
variable {I J : Nat → Prop} {m : Nat} {w w' : World} {u : Value} {room lost : Int} {ls : List (List Int)}
theorem RefNetAt.lt (h : RefNetAt I m w u room lost ls) : m < w.heap.size := (Array.getElem?_eq_some_iff.1 h.block).1
theorem RefNetAt.c0 (h : RefNetAt I m w u room lost ls) : w.cell? ⟨m, 0, none⟩ = some (.int .i64 room) := by simp [World.cell?, h.block]
theorem RefNetAt.c1 (h : RefNetAt I m w u room lost ls) : w.cell? ⟨m, 1, none⟩ = some u := by simp [World.cell?, h.block]
theorem RefNetAt.c2 (h : RefNetAt I m w u room lost ls) : w.cell? ⟨m, 2, none⟩ = some (.int .i64 lost) := by simp [World.cell?, h.block]
theorem RefNetAt.free (h : RefNetAt I m w u room lost ls) (i : Nat) : w.frozen? ⟨m, i, none⟩ = false := by simp [World.frozen?, h.block]
theorem RefNetAt.keep (h : RefNetAt I m w u room lost ls) (hg : w'.heap[m]? = w.heap[m]?) (hv : ∀ k, I k → k < w.heap.size → J k ∧ w'.heap[k]? = w.heap[k]?) : RefNetAt J m w' u room lost ls := by
  obtain ⟨A, c, h1, h2, h3, h4⟩ := h.row
  exact ⟨hg.trans h.block, ⟨A, c, h1, h2, h3, h4.move hv⟩, h.ok⟩
theorem RefNetAt.below (h : RefNetAt I m w u room lost ls) (hb : Below w.heap.size w w') : RefNetAt I m w' u room lost ls :=
  h.keep (hb.block m h.lt) (fun k hi hk => ⟨hi, hb.block k hk⟩)
/-- Another row, stored. -/
theorem RefNetAt.put {w2 : World} {A : Option Addr} {c : Nat} {zs : List (List Int)} (h : RefNetAt I m w u room lost ls) (hb : w2.heap[m]? = w.heap[m]?) (hm : ∀ k, J k → k ≠ m)
    (hl : zs.length ≤ c) (hn : A = none → c = 0) (hr : Rep.Row bytesRep J w2 A zs) (hz : (zs.length : Int) ≤ room) : RefNetAt J m (w2.setCell ⟨m, 1, none⟩ (.slice A zs.length c)) (.slice A zs.length c) room lost zs :=
  ⟨blk_set _ _ 1 _ (hb.trans h.block), ⟨A, c, rfl, hn, hl, hr.move fun k hk _ => ⟨hk, Below.heap_setCell _ _ _ _ (hm k hk)⟩⟩, h.ok.1, h.ok.2.1, hz⟩
theorem RefNetAt.more (h : RefNetAt I m w u room lost ls) (hm : ∀ k, I k → k ≠ m) (n : Int) : RefNetAt I m (w.setCell ⟨m, 2, none⟩ (.int .i64 n)) u room n ls := by
  obtain ⟨A, c, h1, h2, h3, h4⟩ := h.row
  exact ⟨blk_set _ _ 2 _ h.block, ⟨A, c, h1, h2, h3, h4.move fun k hk _ => ⟨hk, Below.heap_setCell _ _ _ _ (hm k hk)⟩⟩, h.ok⟩
end
/-- Some frames are there, in some row. -/
def Held (I : Nat → Prop) (m : Nat) (w : World) (room lost : Int) (ls : List (List Int)) : Prop := ∃ u, RefNetAt I m w u room lost ls

set_option maxHeartbeats 4000000 in
set_option maxRecDepth 100000 in
theorem send_calls (I : Nat → Prop) (m : Nat) (w : World) (u : Value) (room lost : Int) (ls : List (List Int)) (h : RefNetAt I m w u room lost ls) (A : Option Addr) (c : Nat) (l : List (List Int)) (hr : Rep.Row bytesRep I w A l)
    (hI : ∀ k, w.heap.size ≤ k → I k) (hm : ∀ k, I k → k ≠ m) (h0 : 0 ≤ lost) (h1 : lost + l.length ≤ 1000000000) :
    Calls Try.prog 81 #[.pointer (some ⟨m, 0, none⟩), .slice A l.length c] w fun e w' => e = .returned (.int .i64 (fits room l.length ls.length)) ∧
      Hold (Held I m w' room (lost + (l.length - fits room l.length ls.length)) (ls ++ l.take (fits room l.length ls.length))) ∧ Hold (Fr (fun k => k = m) w w') := by
  obtain ⟨F, hF⟩ : ∃ k, fits room l.length ls.length = k := ⟨_, rfl⟩
  have hok := h.ok
  have hFl : F ≤ l.length := by rw [← hF]; unfold fits; omega
  have hFr : (ls.length : Int) + F ≤ room := by rw [← hF]; unfold fits; omega
  have hFf : F < l.length → (ls.length : Int) + F = room := by rw [← hF]; unfold fits; omega
  have H := Hold.mk h
  have HR := Hold.mk hr
  have HI := Hold.mk hI
  have HM := Hold.mk hm
  have HFf := Hold.mk hFf
  have hmx := hr.len_le
  have HF := Hold.mk hF
  rw [hF]
  clear h hr hI hm hF hFf
  go_enter Try.func81, Try.ntmps81
  go_wp2
  go_loopw [5, 6] (fun x s wr => ∃ j : Nat, j ≤ l.length ∧ s = .int .i64 (j : Int) ∧ x = .int .i64 ((min j F : Nat) : Int) ∧ Hold (Held I m wr room (lost + (j - (min j F : Nat))) (ls ++ l.take (min j F))) ∧ Hold (Fr (fun k => k = m) w wr)) (fun _ s _ => l.length - (intOf s).toNat)
  case atStart => exact ⟨0, by omega, rfl, by simp, ⟨u, by simpa using H.out⟩, ⟨Fr.refl _ _⟩⟩
  case round =>
    obtain ⟨j, hj, rfl, rfl, HSj, HFj⟩ := hrel
    by_cases hlt : j < l.length
    · obtain ⟨L, hL⟩ : ∃ L, ls ++ l.take (min j F) = L := ⟨_, rfl⟩
      have hLl : L.length = ls.length + min j F := by rw [← hL]; simp; omega
      obtain ⟨q, hq⟩ : ∃ q : Int, lost + ((j : Int) - (min j F : Nat)) = q := ⟨_, rfl⟩
      have HSo := HSj.out
      rw [hL, hq] at HSo
      obtain ⟨u2, hN⟩ := HSo
      have hQ := hN.row
      obtain ⟨A2, c2', rfl, hn2, hl2, hr2⟩ := hQ
      have c0 := hN.c0
      have c1 := hN.c1
      have l1 : (j : Int) < (l.length : Int) := by omega
      have q0 : 0 ≤ q := by omega
      have q1 : q ≤ 1000000000 := by omega
      have hsz : w.heap.size ≤ wr.heap.size := HFj.out.size
      have HN := Hold.mk hN
      have HR2 := Hold.mk hr2
      have HN2 := Hold.mk hn2
      have HSz := Hold.mk hsz
      clear hN hr2 hn2 hl2 hsz
      by_cases hjF : j < F
      · have hmin : min j F = j := by omega
        have hmin2 : min (j + 1) F = j + 1 := by omega
        have t1 : decide (room ≤ (L.length : Int)) = false := decide_eq_false (by omega)
        have HM1 := Hold.mk hmin
        have HM2 := Hold.mk hmin2
        have HLl := Hold.mk hLl
        have HL := Hold.mk hL
        have HQ := Hold.mk hq
        clear hLl hL hq hmin2
        rw [hmin]
        clear hmin
        go_wp2
        go_quiet (fail)
        obtain ⟨w1, hw1⟩ : ∃ W, wr.drewN nq = W := ⟨_, rfl⟩
        have hb1 : Below wr.heap.size wr w1 := by rw [← hw1]; exact below_drewN wr nq
        rw [hw1]
        clear hw1 c0 c1
        have hN1 := HN.out.below hb1
        have c1 := hN1.c1
        have c1' : (w1.alloc (.cells #[] 22)).cell? ⟨m, 1, none⟩ = some (.slice A2 L.length c2') := (hN1.below ((Below.refl _ _).alloc (Nat.le_refl _) _)).c1
        have HB1 := Hold.mk hb1
        have HN1 := Hold.mk hN1
        have HR1 := Hold.mk (HR2.out.below hb1)
        clear hb1 hN1
        go_wp2_with (at_builtin; refine Rep.wp_copy bytesRep rfl (.tmp 31) (.tmp 35) 27 22 (.slice none 0 0) 24 rfl Try.underlying27 info_bytes rfl (by decide) (by decide) (fun k => I k ∧ k < w1.heap.size) L A2 L.length c2' rfl rfl rfl (HR1.out.move fun k hk hlt => ⟨⟨hk, hlt⟩, rfl⟩) HN2.out ?c1 ?_)
        case c1 => have := HLl.out; omega
        intro A3 c3 w3 HO3 HC3 HB3
        have hN3 := HN1.out.below HB3.out
        have hrj : Rep.Row bytesRep (fun k => I k ∧ k < w1.heap.size) w3 A l := HR.out.move fun k hk hlt =>
          have h2 : k < wr.heap.size := Nat.lt_of_lt_of_le hlt HSz.out
          have h3 : k < w1.heap.size := Nat.lt_of_lt_of_le h2 HB1.out.size
          ⟨⟨hk, h3⟩, (HB3.out.block k h3).trans ((HB1.out.block k h2).trans (HFj.out.block k hlt (HM.out k hk)))⟩
        obtain ⟨ad, cs, rfl, _, _, ⟨A1, e1, rfl, hl1, hn1, hr1⟩, hc1⟩ := hrj.at j hlt
        obtain ⟨b, hb⟩ : ∃ b, l[j] = b := ⟨_, rfl⟩
        have hcell : w3.cell? (ad.add j) = some (.slice A1 b.length e1) := by have := hc1 0 _ rfl; rw [hb] at this; simpa [Rep.slice] using this
        have hkb : bytesRep.K (fun k => I k ∧ k < w1.heap.size) w3 b [.slice A1 b.length e1] := by rw [hb] at hl1 hr1; exact ⟨A1, e1, rfl, hl1, hn1, hr1⟩
        have hLb : ls ++ l.take (j + 1) = L ++ [b] := by rw [← HL.out, HM1.out, List.append_assoc]; congr 1; rw [List.take_succ_eq_append_getElem hlt, hb]
        have cm3 := hN3.c1
        have fm3 := hN3.free 1
        have HK := Hold.mk hkb
        have HLb := Hold.mk hLb
        have HN3 := Hold.mk hN3
        clear hN3 hrj hl1 hn1 hr1 hc1 hb hkb hLb c1 c1'
        go_wp2_with (at_builtin; refine Rep.wp_push bytesRep rfl (.tmp 37) (.tmp 42) 27 22 (.slice none 0 0) 24 rfl Try.underlying27 info_bytes rfl (by decide) (by decide) w1.heap.size (fun k => I k ∧ k < w1.heap.size) (fun k => I k ∧ k < w1.heap.size) (.slice A3 L.length c3) L b [.slice A1 b.length e1] rfl rfl HO3.out HK.out ?c2 ?c3 ?c4 ?_)
        case c2 => intro k hk _; exact ⟨hk, fun e => by have := (HO3.out.block_lt k e.symm).1; omega⟩
        case c3 => exact HB3.out.size
        case c4 => have := HLl.out; omega
        intro A4 c4 w4 HG4
        have hm4 : w4.heap[m]? = w3.heap[m]? := HG4.out.fr.block m HN3.out.lt (fun e => by have := (HO3.out.block_lt m e).1; have := HN1.out.lt; omega)
        have hblk := hm4.trans HN3.out.block
        have f4 : w4.frozen? ⟨m, 1, none⟩ = false := by simp [World.frozen?, hblk]
        have cm4 : w4.cell? ⟨m, 1, none⟩ = some (.slice A2 L.length c2') := by simp [World.cell?, hblk]
        have hlen : (L ++ [b]).length = L.length + 1 := by simp
        have hfin := HN3.out.put (J := I) hm4 HM.out HG4.out.le HG4.out.nil (HG4.out.own.row.move fun k hk _ => ⟨by
          rcases hk with hk | hk
          · exact hk.1
          · exact HI.out k (Nat.le_trans HSz.out (Nat.le_trans HB1.out.size (HG4.out.own.block_lt k hk).1)), rfl⟩) (by have := HLl.out; have := HM1.out; rw [hlen]; push_cast; omega)
        have hfr : Fr (fun k => k = m) w (w4.setCell ⟨m, 1, none⟩ (.slice A4 (L ++ [b]).length c4)) :=
          (((HFj.out.trans (Fr.of_below _ HB1.out) (fun _ _ h => h)).trans (Fr.of_below _ (HB3.out.trans ((HG4.out.below (fun k hk => (HO3.out.block_lt k hk).1) HB3.out.size)))) (fun _ _ h => h))).setCell (p := ⟨m, 1, none⟩) (.inl rfl) _
        rw [hlen] at hfin hfr
        have HFin := Hold.mk hfin
        have HFr' := Hold.mk hfr
        clear hm4 hblk hlen hfin hfr cm3 fm3 hcell
        go_wp2
        refine ⟨⟨j + 1, by omega, by go_num, by rw [HM2.out]; go_num, ⟨_, by rw [HM2.out, HLb.out, show lost + (((j + 1 : Nat) : Int) - ((j + 1 : Nat) : Int)) = q by have := HQ.out; have := HM1.out; omega]; exact HFin.out⟩, HFr'⟩, by simp [intOf]; omega⟩
      · have hmin : min j F = F := by omega
        have hmin2 : min (j + 1) F = F := by omega
        have hLr : (L.length : Int) = room := by have := HFf.out (by omega); rw [hLl, hmin]; push_cast; omega
        have t1 : decide (room ≤ (L.length : Int)) = true := decide_eq_true (by omega)
        have q2 : IntKind.i64.wrap (q + 1) = q + 1 := by rw [IntKind.wrap_i64]; omega
        have HM1 := Hold.mk hmin
        have HM2 := Hold.mk hmin2
        have HL := Hold.mk hL
        have HQ := Hold.mk hq
        clear hLl hL hq hmin2 hLr
        rw [hmin]
        clear hmin
        go_wp2
        go_quiet (fail)
        obtain ⟨w1, hw1⟩ : ∃ W, wr.drewN nq = W := ⟨_, rfl⟩
        have hb1 : Below wr.heap.size wr w1 := by rw [← hw1]; exact below_drewN wr nq
        rw [hw1]
        clear hw1 c0 c1
        have hN1 := HN.out.below hb1
        have c2 := hN1.c2
        have f2 := hN1.free 2
        have HFin := Hold.mk (hN1.more HM.out (q + 1))
        have HFr' := Hold.mk ((HFj.out.trans (Fr.of_below (fun k => k = m) hb1) (fun _ _ h => h)).setCell (p := ⟨m, 2, none⟩) (.inl rfl) (.int .i64 (q + 1)))
        clear hN1 hb1
        go_wp2
        refine ⟨⟨j + 1, by omega, by go_num, by rw [HM2.out], ⟨_, by rw [HM2.out, ← HM1.out, HL.out, show lost + (((j + 1 : Nat) : Int) - ((min j F : Nat) : Int)) = q + 1 by have := HQ.out; push_cast; omega]; exact HFin.out⟩, HFr'⟩, by simp [intOf]; omega⟩
    · obtain rfl : j = l.length := by omega
      have hmin : min l.length F = F := by omega
      rw [hmin] at HSj ⊢
      have HT := Hold.mk (List.take_length (l := l))
      go_wp2
      go_ret
      exact ⟨rfl, HSj, HFj⟩

set_option maxHeartbeats 1000000 in
theorem take_no (I : Nat → Prop) (m : Nat) (w : World) (u : Value) (room lost : Int) (ls : List (List Int)) (h : RefNetAt I m w u room lost ls) (i : Int) (hi : i < 0 ∨ (ls.length : Int) ≤ i) :
    Calls Try.prog 82 #[.pointer (some ⟨m, 0, none⟩), .int .i64 i] w fun e w' => e = .returned (.tuple #[.slice none 0 0, .bool false]) ∧ w = w' := by
  obtain ⟨A, c, rfl, _⟩ := h.row
  have c1 := h.c1
  clear h
  by_cases h1 : i < 0
  · have t1 := decide_eq_true h1
    clear h1 hi
    go_enter Try.func82, Try.ntmps82
    go_wp2
    go_ret2
    exact ⟨rfl, rfl⟩
  · have t1 := decide_eq_false h1
    have t2 : decide ((ls.length : Int) ≤ i) = true := decide_eq_true (by omega)
    clear h1 hi
    go_enter Try.func82, Try.ntmps82
    go_wp2
    go_ret2
    exact ⟨rfl, rfl⟩

theorem erase_same {α : Type} (ls : List α) (i : Nat) (h : i < ls.length) : (ls.take (i + 1)).eraseIdx i = (ls.take i).eraseIdx i := by
  rw [List.eraseIdx_eq_take_drop_succ, List.eraseIdx_eq_take_drop_succ, List.take_take, List.take_take, List.drop_of_length_le (by simp; omega), List.drop_of_length_le (by simp; omega), show min i (i + 1) = i by omega, Nat.min_self]
theorem erase_next {α : Type} (ls : List α) (i k : Nat) (h : k < ls.length) (hk : k ≠ i) : (ls.take (k + 1)).eraseIdx i = (ls.take k).eraseIdx i ++ [ls[k]] := by
  rw [List.take_succ_eq_append_getElem h]
  by_cases hlt : i < k
  · rw [List.eraseIdx_append_of_lt_length (by simp; omega)]
  · rw [List.eraseIdx_of_length_le (by simp; omega), List.eraseIdx_of_length_le (by simp; omega)]

set_option maxHeartbeats 4000000 in
set_option maxRecDepth 100000 in
theorem take_yes (I : Nat → Prop) (m : Nat) (w : World) (u : Value) (room lost : Int) (ls : List (List Int)) (h : RefNetAt I m w u room lost ls) (i : Nat) (hi : i < ls.length) (b : List Int) (hb : ls[i]? = some b)
    (hI : ∀ k, w.heap.size ≤ k → I k) (hm : ∀ k, I k → k ≠ m) :
    Calls Try.prog 82 #[.pointer (some ⟨m, 0, none⟩), .int .i64 (i : Int)] w fun e w' => ∃ A1 c1, e = .returned (.tuple #[.slice A1 b.length c1, .bool true]) ∧
      Hold (Rep.Row (Rep.int .u8) I w' A1 b) ∧ Hold (Held I m w' room lost (ls.eraseIdx i)) ∧ Hold (Fr (fun k => k = m) w w') := by
  obtain ⟨A, c, rfl, hn, hl, hr⟩ := h.row
  have hok := h.ok
  have c1 := h.c1
  obtain rfl : ls[i] = b := by rw [List.getElem?_eq_getElem hi] at hb; injection hb
  have hrI : Rep.Row bytesRep (fun k => I k ∧ k < w.heap.size) w A ls := hr.move fun k hk hlt => ⟨⟨hk, hlt⟩, rfl⟩
  obtain ⟨ad, cs, rfl, _, _, ⟨A1, e1, rfl, hl1, hn1, hr1⟩, hc1⟩ := hrI.at i hi
  obtain ⟨b, hb2⟩ : ∃ b, ls[i] = b := ⟨_, rfl⟩
  have hcell : w.cell? (ad.add i) = some (.slice A1 b.length e1) := by have := hc1 0 _ rfl; rw [hb2] at this; simpa [Rep.slice] using this
  rw [hb2] at hr1 ⊢
  have t1 : decide ((i : Int) < 0) = false := decide_eq_false (by omega)
  have t2 : decide (ls.length ≤ i) = false := decide_eq_false (by omega)
  have l1 : (i : Int) < (ls.length : Int) := by omega
  have H := Hold.mk h
  have HR := Hold.mk hrI
  have HR1 := Hold.mk hr1
  have HI := Hold.mk hI
  have HM := Hold.mk hm
  have hO0 : Hold (Rep.Own bytesRep 22 w.heap.size (fun k => I k ∧ k < w.heap.size) w (.slice none 0 0) ((ls.take 0).eraseIdx i)) := ⟨by simpa using Rep.Own.nil _ _ _ _ _⟩
  clear h hn hl hr hrI hl1 hn1 hr1 hc1 hb hb2 hI hm
  go_enter Try.func82, Try.ntmps82
  go_wp2
  clear hcell t1 t2 l1 c1
  go_loopw [7, 8] (fun x s wr => ∃ k : Nat, k ≤ ls.length ∧ s = .int .i64 (k : Int) ∧ Hold (Rep.Own bytesRep 22 w.heap.size (fun k => I k ∧ k < w.heap.size) wr x ((ls.take k).eraseIdx i)) ∧ Hold (Below w.heap.size w wr)) (fun _ s _ => ls.length - (intOf s).toNat)
  case atStart => exact ⟨0, by omega, rfl, hO0, ⟨Below.refl _ _⟩⟩
  case round =>
    obtain ⟨k, hk, rfl, HO, HB⟩ := hrel
    have c1 := (H.out.below HB.out).c1
    by_cases hlt : k < ls.length
    · have l1 : (k : Int) < (ls.length : Int) := by omega
      by_cases hki : k = i
      · subst hki
        have t3 : ((k : Int) != (k : Int)) = false := by simp
        have HO2 : Hold (Rep.Own bytesRep 22 w.heap.size (fun k => I k ∧ k < w.heap.size) wr u7 ((ls.take (k + 1)).eraseIdx k)) := ⟨by rw [erase_same ls k hlt]; exact HO.out⟩
        go_wp2
        exact ⟨⟨k + 1, by omega, by go_num, HO2, HB⟩, by simp [intOf]; omega⟩
      · have t3 : ((k : Int) != (i : Int)) = true := by simp; omega
        obtain ⟨ad', cs, e', _, _, ⟨A2, e2, rfl, hl2, hn2, hr2⟩, hc2⟩ := (HR.out.below HB.out).at k hlt
        cases e'
        obtain ⟨x, hx⟩ : ∃ b, ls[k] = b := ⟨_, rfl⟩
        have hcell : wr.cell? (ad.add k) = some (.slice A2 x.length e2) := by have := hc2 0 _ rfl; rw [hx] at this; simpa [Rep.slice] using this
        have hkb : Hold (bytesRep.K (fun k => I k ∧ k < w.heap.size) wr x [.slice A2 x.length e2]) := ⟨by rw [hx] at hl2 hr2; exact ⟨A2, e2, rfl, hl2, hn2, hr2⟩⟩
        have hnx : Hold ((ls.take (k + 1)).eraseIdx i = (ls.take k).eraseIdx i ++ [x]) := ⟨by rw [← hx]; exact erase_next ls i k hlt hki⟩
        have hlz : Hold (((ls.take k).eraseIdx i).length ≤ ls.length) := ⟨by have := List.length_eraseIdx_le (ls.take k) i; simp at this; omega⟩
        clear hl2 hn2 hr2 hc2 hx
        go_wp2_with (at_builtin; refine Rep.wp_push bytesRep rfl (.tmp 39) (.tmp 47) 27 22 (.slice none 0 0) 24 rfl Try.underlying27 info_bytes rfl (by decide) (by decide) w.heap.size (fun k => I k ∧ k < w.heap.size) (fun k => I k ∧ k < w.heap.size) _ ((ls.take k).eraseIdx i) x [.slice A2 x.length e2] rfl rfl HO.out hkb.out ?c2 HB.out.size ?c4 ?_)
        case c2 => intro k hk _; exact ⟨hk, fun e => by have := (HO.out.block_lt k e.symm).1; omega⟩
        case c4 => have := hlz.out; omega
        intro A4 c4 w4 HG4
        have HO4 : Hold (Rep.Own bytesRep 22 w.heap.size (fun k => I k ∧ k < w.heap.size) w4 (.slice A4 (((ls.take k).eraseIdx i).length + 1) c4) ((ls.take (k + 1)).eraseIdx i)) := ⟨by rw [hnx.out]; have := HG4.out.own; rw [List.length_append] at this; exact this⟩
        have HB4 : Hold (Below w.heap.size w w4) := ⟨HB.out.trans (HG4.out.below (fun k hk => (HO.out.block_lt k hk).1) HB.out.size)⟩
        clear c1 hcell
        go_wp2
        exact ⟨⟨k + 1, by omega, by go_num, HO4, HB4⟩, by simp [intOf]; omega⟩
    · obtain rfl : k = ls.length := by omega
      obtain ⟨A4, c4, rfl, hl4, hn4⟩ := HO.out.len_form
      have hN := H.out.below HB.out
      have f1 := hN.free 1
      have hz : (ls.take ls.length).eraseIdx i = ls.eraseIdx i := by rw [List.take_length]
      have hown := HO.out
      rw [hz] at hown hl4 ⊢
      have HFin := Hold.mk (hN.put (J := I) rfl HM.out hl4 hn4 (hown.row.move fun k hk _ => ⟨by
          rcases hk with hk | hk
          · exact hk.1
          · exact HI.out k (hown.block_lt k hk).1, rfl⟩) (by have := List.length_eraseIdx_le ls i; omega))
      have HFr := Hold.mk ((Fr.of_below (fun k => k = m) HB.out).setCell (p := ⟨m, 1, none⟩) (.inl rfl) (.slice A4 (ls.eraseIdx i).length c4))
      have HRw : Hold (Rep.Row (Rep.int .u8) I (wr.setCell ⟨m, 1, none⟩ (.slice A4 (ls.eraseIdx i).length c4)) A1 b) := ⟨(HR1.out.below HB.out).move fun k hk _ => ⟨hk.1, Below.heap_setCell _ _ _ _ (HM.out k hk.1)⟩⟩
      clear hN hown hz hl4 hn4
      go_wp2
      go_ret2
      exact ⟨A1, e1, rfl, HRw, ⟨_, HFin.out⟩, HFr⟩

set_option maxHeartbeats 1000000 in
theorem double_no (I : Nat → Prop) (m : Nat) (w : World) (u : Value) (room lost : Int) (ls : List (List Int)) (h : RefNetAt I m w u room lost ls) (i : Int) (hi : i < 0 ∨ (ls.length : Int) ≤ i ∨ (ls.length : Int) = room) :
    Calls Try.prog 83 #[.pointer (some ⟨m, 0, none⟩), .int .i64 i] w fun e w' => e = .returned (.bool false) ∧ ∃ n, w' = w.drewN n := by
  obtain ⟨A, c, rfl, _⟩ := h.row
  have c1 := h.c1
  have c0 := h.c0
  clear h
  by_cases h1 : i < 0
  · have t1 := decide_eq_true h1
    clear h1 hi
    go_enter Try.func83, Try.ntmps83
    go_wp2
    go_quiet (fail)
    go_wp2
    go_ret
    exact ⟨rfl, _, rfl⟩
  · have t1 := decide_eq_false h1
    by_cases h2 : (ls.length : Int) ≤ i
    · have t2 := decide_eq_true h2
      clear h1 h2 hi
      go_enter Try.func83, Try.ntmps83
      go_wp2
      go_quiet (fail)
      go_wp2
      go_ret
      exact ⟨rfl, _, rfl⟩
    · have t2 := decide_eq_false h2
      have t3 : decide (room ≤ (ls.length : Int)) = true := decide_eq_true (by omega)
      clear h1 h2 hi
      go_enter Try.func83, Try.ntmps83
      go_wp2
      go_quiet (fail)
      go_wp2
      go_ret
      exact ⟨rfl, _, rfl⟩

set_option maxHeartbeats 2000000 in
set_option maxRecDepth 100000 in
theorem double_yes (I : Nat → Prop) (m : Nat) (w : World) (u : Value) (room lost : Int) (ls : List (List Int)) (h : RefNetAt I m w u room lost ls) (i : Nat) (hi : i < ls.length) (hf : (ls.length : Int) < room) (b : List Int) (hb : ls[i]? = some b)
    (hI : ∀ k, w.heap.size ≤ k → I k) (hm : ∀ k, I k → k ≠ m) :
    Calls Try.prog 83 #[.pointer (some ⟨m, 0, none⟩), .int .i64 (i : Int)] w fun e w' => e = .returned (.bool true) ∧ Hold (Held I m w' room lost (ls ++ [b])) ∧ Hold (Fr (fun k => k = m) w w') := by
  obtain ⟨A, c, rfl, hn, hl, hr⟩ := h.row
  have c1 := h.c1
  have c0 := h.c0
  have hok := h.ok
  have HBe := Hold.mk hb
  have t1 : decide ((i : Int) < 0) = false := decide_eq_false (by omega)
  have t2 : decide (ls.length ≤ i) = false := decide_eq_false (by omega)
  have t3 : decide (room ≤ (ls.length : Int)) = false := decide_eq_false (by omega)
  have l1 : (i : Int) < (ls.length : Int) := by omega
  have H := Hold.mk h
  have HR := Hold.mk hr
  have HN := Hold.mk hn
  have HI := Hold.mk hI
  have HM := Hold.mk hm
  have HIx := Hold.mk hi
  clear h hn hl hr hb hI hm hi
  go_enter Try.func83, Try.ntmps83
  go_wp2
  go_quiet (fail)
  obtain ⟨w1, hw1⟩ : ∃ W, w.drewN nq = W := ⟨_, rfl⟩
  have hb1 : Below w.heap.size w w1 := by rw [← hw1]; exact below_drewN w nq
  rw [hw1]
  clear hw1 c0 c1
  have c1' : (w1.alloc (.cells #[] 22)).cell? ⟨m, 1, none⟩ = some (.slice A ls.length c) := ((H.out.below hb1).below ((Below.refl _ _).alloc (Nat.le_refl _) _)).c1
  have HB1 := Hold.mk hb1
  clear hb1
  go_wp2_with (at_builtin; refine Rep.wp_copy bytesRep rfl (.tmp 29) (.tmp 33) 27 22 (.slice none 0 0) 24 rfl Try.underlying27 info_bytes rfl (by decide) (by decide) (fun k => I k ∧ k < w1.heap.size) ls A ls.length c rfl rfl rfl ((HR.out.below HB1.out).move fun k hk hlt => ⟨⟨hk, hlt⟩, rfl⟩) HN.out ?c1 ?_)
  case c1 => omega
  intro A3 c3 w3 HO3 HC3 HB3
  have hN3 := (H.out.below HB1.out).below HB3.out
  have hlt : i < ls.length := HIx.out
  obtain ⟨ad, cs, rfl, _, _, ⟨A1, e1, rfl, hl1, hn1, hr1⟩, hc1⟩ := (((HR.out.below HB1.out).move (J := fun k => I k ∧ k < w1.heap.size) fun k hk hlt => ⟨⟨hk, hlt⟩, rfl⟩).below HB3.out).at i hlt
  have hb : ls[i] = b := by have := HBe.out; rw [List.getElem?_eq_getElem hlt] at this; injection this
  have hcell : w3.cell? (ad.add i) = some (.slice A1 b.length e1) := by have := hc1 0 _ rfl; rw [hb] at this; simpa [Rep.slice] using this
  have hkb : bytesRep.K (fun k => I k ∧ k < w1.heap.size) w3 b [.slice A1 b.length e1] := by rw [hb] at hl1 hr1; exact ⟨A1, e1, rfl, hl1, hn1, hr1⟩
  have cm3 := hN3.c1
  have fm3 := hN3.free 1
  have HK := Hold.mk hkb
  have HN3 := Hold.mk hN3
  clear hN3 hl1 hn1 hr1 hc1 hb hkb hlt c1'
  go_wp2_with (at_builtin; refine Rep.wp_push bytesRep rfl (.tmp 35) (.tmp 43) 27 22 (.slice none 0 0) 24 rfl Try.underlying27 info_bytes rfl (by decide) (by decide) w1.heap.size (fun k => I k ∧ k < w1.heap.size) (fun k => I k ∧ k < w1.heap.size) (.slice A3 ls.length c3) ls b [.slice A1 b.length e1] rfl rfl HO3.out HK.out ?c2 HB3.out.size ?c4 ?_)
  case c2 => intro k hk _; exact ⟨hk, fun e => by have := (HO3.out.block_lt k e.symm).1; omega⟩
  case c4 => omega
  intro A4 c4 w4 HG4
  have hm4 : w4.heap[m]? = w3.heap[m]? := HG4.out.fr.block m HN3.out.lt (fun e => by have := (HO3.out.block_lt m e).1; have := H.out.lt; have := HB1.out.size; omega)
  have hblk := hm4.trans HN3.out.block
  have f4 : w4.frozen? ⟨m, 1, none⟩ = false := by simp [World.frozen?, hblk]
  have cm4 : w4.cell? ⟨m, 1, none⟩ = some (.slice (some ad) ls.length c) := by simp [World.cell?, hblk]
  have hlen : (ls ++ [b]).length = ls.length + 1 := by simp
  have hfin := HN3.out.put (J := I) hm4 HM.out HG4.out.le HG4.out.nil (HG4.out.own.row.move fun k hk _ => ⟨by
    rcases hk with hk | hk
    · exact hk.1
    · exact HI.out k (Nat.le_trans HB1.out.size (HG4.out.own.block_lt k hk).1), rfl⟩) (by rw [hlen]; push_cast; omega)
  have hfr : Fr (fun k => k = m) w (w4.setCell ⟨m, 1, none⟩ (.slice A4 (ls ++ [b]).length c4)) :=
    ((Fr.of_below (fun k => k = m) HB1.out).trans (Fr.of_below (fun k => k = m) (HB3.out.trans ((HG4.out.below (fun k hk => (HO3.out.block_lt k hk).1) HB3.out.size)))) (fun _ _ h => h)).setCell (p := ⟨m, 1, none⟩) (.inl rfl) _
  rw [hlen] at hfin hfr
  have HFin := Hold.mk hfin
  have HFr' := Hold.mk hfr
  clear hm4 hblk hlen hfin hfr cm3 fm3 hcell
  go_wp2
  go_ret
  exact ⟨rfl, ⟨_, HFin.out⟩, HFr'⟩
end Go.Proofs.Ytgeeicpjphdolaa.RefNet
