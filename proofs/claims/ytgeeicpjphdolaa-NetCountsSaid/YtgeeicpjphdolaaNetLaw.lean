/- lictorlaw10: its acts read, and Fits, all, count, Right by their walks. -/
import Derived.Test.YtgeeicpjphdolaaRefNet
import Derived.Test.YtgeeicpjphdolaaFrSame
namespace Go.Proofs.Ytgeeicpjphdolaa.NetLaw
open Go.RowKit Go.Proofs.Ytgeeicpjphdolaa.B
open Go.Proofs.Ytgeeicpjphdolaa.Net (NetAt bytesRep info_bytes size_bytes mine fits)
open Go.Proofs.Ytgeeicpjphdolaa.RefNet (RefNetAt)

/-- An act: its kind, its frames, its place. -/
abbrev ActD := Int × List (List Int) × Int × Unit
abbrev actRep : Rep ActD := Rep.prod (Rep.int .u8) (Rep.prod (Rep.slice bytesRep) (Rep.prod (Rep.int .i64) Rep.unit))
theorem actRep_sz : actRep.sz = 3 := rfl
theorem opens_act : Rep.Opens Try.prog actRep 80 := by
  refine Rep.opens_struct Try.underlying80 (by kernel_rfl) ?_
  exact Rep.opensF_cons rfl (Rep.opens_int Try.underlying5 (by kernel_rfl)) (Rep.opensF_cons rfl (Rep.opens_slice Try.underlying27 (by kernel_rfl) (by decide) (Rep.opens_slice Try.underlying22 (by kernel_rfl) (by decide) (Rep.opens_int Try.underlying5 (by kernel_rfl)))) (Rep.opensF_cons rfl (Rep.opens_int Try.underlying3 (by kernel_rfl)) (Rep.opensF_nil _)))
theorem add_fld (a : Addr) (k j : Nat) (hj : 0 < j) : a.add (k + j) = ⟨(a.add k).block, (a.add k).off + j, none⟩ := by
  rw [← Rep.add_add]
  generalize a.add k = b
  unfold Addr.add
  rw [if_neg (by omega)]
theorem row_act {I : Nat → Prop} {w : World} {A : Option Addr} {xs : List ActD} (h : Rep.Row actRep I w A xs) (i : Nat) (hi : i < xs.length) :
    ∃ ad p A1 c1, A = some ad ∧ ad.add (i * 3) = p ∧ w.cell? p = some (.int .u8 xs[i].1) ∧ w.cell? ⟨p.block, p.off + 1, none⟩ = some (.slice A1 xs[i].2.1.length c1) ∧ w.cell? ⟨p.block, p.off + 2, none⟩ = some (.int .i64 xs[i].2.2.1) ∧ p.block < w.heap.size ∧
      (A1 = none → c1 = 0) ∧ xs[i].2.1.length ≤ c1 ∧ Rep.Row bytesRep I w A1 xs[i].2.1 ∧ (Lit.int .u8 xs[i].1).wf = true ∧ (Lit.int .i64 xs[i].2.2.1).wf = true := by
  obtain ⟨ad, cs, e, _, hlt, hk, hc⟩ := h.at i hi
  obtain ⟨x1, x2, rfl, ⟨rfl, hw⟩, x3, x4, rfl, ⟨A1, c1, rfl, hl, hn, hr⟩, x5, x6, rfl, ⟨rfl, hw2⟩, rfl⟩ := hk
  exact ⟨ad, _, A1, c1, e, rfl, by have := hc 0 _ rfl; simpa [actRep_sz] using this, by have := hc 1 _ rfl; rw [actRep_sz, add_fld _ _ _ (by decide)] at this; exact this, by have := hc 2 _ rfl; rw [actRep_sz, add_fld _ _ _ (by decide)] at this; exact this, by rw [Rep.add_block]; exact hlt, hn, hl, hr, hw, hw2⟩

/-- One act is not too great. -/
def Good (a : ActD) : Prop := a.2.1.length ≤ 80 ∧ ∀ x ∈ a.2.1, x.length ≤ 3000
/-- None is. -/
def Fitted (l : List ActD) : Prop := l.length ≤ 80 ∧ ∀ a ∈ l, Good a
/-- Some answer, and the world as it was. -/
def FitsSaid (l : List ActD) (w : World) (e : Ending) (w' : World) : Prop := ∃ b : Bool, e = .returned (.bool b) ∧ Hold (b = true → Fitted l) ∧ w = w'

theorem mem_take_succ {α : Type} {P : α → Prop} {l : List α} {i : Nat} (hi : i < l.length) (h : ∀ a ∈ l.take i, P a) (h2 : P l[i]) : ∀ a ∈ l.take (i + 1), P a := by
  rw [List.take_succ_eq_append_getElem hi]
  intro a ha
  rcases List.mem_append.1 ha with ha | ha
  · exact h a ha
  · rw [List.mem_singleton.1 ha]; exact h2

set_option maxHeartbeats 4000000 in
theorem fits_calls (A : Option Addr) (c : Nat) (l : List ActD) (I : Nat → Prop) (w : World) (h : Rep.Row actRep I w A l) :
    Calls Try.prog 60 #[.slice A l.length c] w (FitsSaid l w) := by
  have H := Hold.mk h
  have hm := h.len_le
  clear h
  go_enter Try.func60, Try.ntmps60
  go_wp2
  go_loopw [3, 4] (fun u v wr => ∃ i n : Nat, i ≤ l.length ∧ n ≤ 3000 ∧ u = .int .i64 (n : Int) ∧ v = .int .i64 (i : Int) ∧ Hold (∀ a ∈ l.take i, Good a) ∧ w = wr) (fun _ v _ => l.length - (intOf v).toNat)
  case atStart => exact ⟨0, 0, by omega, by omega, rfl, rfl, ⟨by simp⟩, rfl⟩
  case round =>
    obtain ⟨i, n, hi, hn, rfl, rfl, HG, rfl⟩ := hrel
    by_cases hlt : i < l.length
    · have l1 : (i : Int) < (l.length : Int) := by omega
      by_cases h80 : i ≤ 80
      · have l2 : decide ((i : Int) ≤ 80) = true := decide_eq_true (by omega)
        obtain ⟨ad, p, A1, c1, rfl, hp, _, hc1, _, _, hn1, hl1, hr1, _, _⟩ := row_act H.out i hlt
        obtain ⟨xs, hx⟩ : ∃ x, l[i].2.1 = x := ⟨_, rfl⟩
        rw [hx] at hc1 hl1 hr1
        have hxm : xs.length ≤ 9223372036854775807 := hr1.len_le
        have HX := Hold.mk hx
        have HR1 := Hold.mk hr1
        clear hx hr1 hn1 hl1
        by_cases b1 : 80 < xs.length
        · go_wp2
          go_ret
          exact ⟨_, rfl, ⟨by simp⟩, rfl⟩
        · go_wp2
          go_loopw [3, 5] (fun u v wr => ∃ k n : Nat, k ≤ xs.length ∧ n ≤ 3000 ∧ u = .int .i64 (n : Int) ∧ v = .int .i64 (k : Int) ∧ Hold (∀ a ∈ xs.take k, a.length ≤ 3000) ∧ w = wr) (fun _ v _ => xs.length - (intOf v).toNat)
          case atStart => exact ⟨0, n, by omega, by omega, rfl, rfl, ⟨by simp⟩, rfl⟩
          case round =>
            obtain ⟨k, n2, hk, hn2, rfl, rfl, HK, rfl⟩ := hrel
            by_cases hkl : k < xs.length
            · have l3 : (k : Int) < (xs.length : Int) := by omega
              obtain ⟨ad2, cs, rfl, _, _, ⟨A3, c3, rfl, _, _, hr3⟩, hc3⟩ := HR1.out.at k hkl
              obtain ⟨y, hy⟩ : ∃ y, xs[k].length = y := ⟨_, rfl⟩
              have hcell : w.cell? (ad2.add k) = some (.slice A3 y c3) := by have := hc3 0 _ rfl; rw [hy] at this; simpa [Rep.slice] using this
              have hym : y ≤ 9223372036854775807 := by rw [← hy]; exact hr3.len_le
              have HY := Hold.mk hy
              clear hy hr3 hc3
              by_cases b2 : 3000 < y
              · go_wp2
                go_ret
                exact ⟨_, rfl, ⟨by simp⟩, rfl⟩
              · by_cases b3 : 3000 < n2 + 1 + y
                · go_wp2
                  go_ret
                  exact ⟨_, rfl, ⟨by simp⟩, rfl⟩
                · have HK2 : Hold (∀ a ∈ xs.take (k + 1), a.length ≤ 3000) := ⟨mem_take_succ hkl HK.out (by rw [HY.out]; omega)⟩
                  go_wp2
                  refine ⟨⟨k + 1, n2 + 1 + y, by omega, by omega, by go_num, by go_num, HK2, trivial⟩, by simp [intOf]; omega⟩
            · obtain rfl : k = xs.length := by omega
              have HG2 : Hold (∀ a ∈ l.take (i + 1), Good a) := ⟨mem_take_succ hlt HG.out ⟨by rw [HX.out]; omega, by rw [HX.out]; have := HK.out; rw [List.take_length] at this; exact this⟩⟩
              go_wp2
              refine ⟨⟨i + 1, n2, by omega, by omega, rfl, by go_num, HG2, trivial⟩, by simp [intOf]; omega⟩
      · have l2 : decide ((i : Int) ≤ 80) = false := decide_eq_false (by omega)
        have l3 : decide (l.length ≤ 80) = false := decide_eq_false (by omega)
        go_wp2
        go_ret
        exact ⟨_, rfl, ⟨fun h => by simp at h; omega⟩, rfl⟩
    · obtain rfl : i = l.length := by omega
      go_wp2
      go_ret
      refine ⟨_, rfl, ⟨fun h => ⟨?_, ?_⟩⟩, rfl⟩
      · simp at h; omega
      · have := HG.out; rw [List.take_length] at this; exact this

set_option maxHeartbeats 4000000 in
set_option maxRecDepth 100000 in
theorem all_calls (base g : Nat) (J : Nat → Prop) (w : World) (v : Value) (room lost : Int) (ls : List (List Int)) (h : NetAt base g J w v room lost ls) :
    Calls Try.prog 65 #[.pointer (some ⟨g, 0, none⟩)] w fun e w' => ∃ A c, e = .returned (.slice A ls.length c) ∧
      Hold (Rep.Own bytesRep 22 w.heap.size (fun k => w.heap.size ≤ k) w' (.slice A ls.length c) ls) ∧ Hold (Below w.heap.size w w') := by
  have H := Hold.mk h
  have hok := h.ok
  clear h
  go_enter Try.func65, Try.ntmps65
  go_wp2
  go_loopw [3, 4] (fun x s wr => ∃ j : Nat, j ≤ ls.length ∧ s = .int .i64 (j : Int) ∧ Hold (Rep.Own bytesRep 22 w.heap.size (fun k => w.heap.size ≤ k) wr x (ls.take j)) ∧ Hold (Below w.heap.size w wr)) (fun _ s _ => ls.length - (intOf s).toNat)
  case atStart => exact ⟨0, by omega, rfl, ⟨Rep.Own.nil _ _ _ _ _⟩, ⟨Below.refl _ _⟩⟩
  case round =>
    obtain ⟨j, hj, rfl, HO, HB⟩ := hrel
    have HN := Hold.mk (H.out.below HB.out)
    by_cases hlt : j < ls.length
    · have l1 : (j : Int) < (ls.length : Int) := by omega
      obtain ⟨b, hb⟩ : ∃ b, ls[j]? = some b := ⟨_, List.getElem?_eq_getElem hlt⟩
      have HT : Hold (ls.take (j + 1) = ls.take j ++ [b]) := ⟨by rw [List.take_add_one, hb]; rfl⟩
      have HBb := Hold.mk hb
      clear hb
      go_wp2_with fail
      refine (Net.len_calls base g J wr v room lost ls HN.out).mono ?_
      rintro e w1 ⟨rfl, rfl⟩
      go_wp2_with fail
      refine (Net.at_yes base g J wr v room lost ls HN.out j hlt b HBb.out).mono ?_
      rintro e w2 ⟨A2, c2, rfl, hn2, ho2, hb2⟩
      have hlc : b.length ≤ c2 := by obtain ⟨_, _, e, hl⟩ := ho2.form; injection e with _ _ e; omega
      have HK : Hold (bytesRep.K (fun k => wr.heap.size ≤ k) w2 b [.slice A2 b.length c2]) := ⟨A2, c2, rfl, hlc, hn2, ho2.row.move fun k hk _ => ⟨(ho2.block_lt k (hk.resolve_left (fun h => h.elim))).1, rfl⟩⟩
      have HB2 := Hold.mk hb2
      have HO2 := Hold.mk (HO.out.below hb2)
      clear hn2 ho2 hlc hb2
      go_wp2_with (at_builtin; refine Rep.wp_push bytesRep rfl (.tmp 19) (.tmp 21) 27 22 (.slice none 0 0) 24 rfl Try.underlying27 info_bytes rfl (by decide) (by decide) w.heap.size (fun k => w.heap.size ≤ k) (fun k => wr.heap.size ≤ k) _ (ls.take j) b [.slice A2 b.length c2] rfl rfl HO2.out HK.out ?c2 ?c3 ?c4 ?_)
      case c2 => intro k hk _; exact ⟨Nat.le_trans HB.out.size hk, fun e => by have := (HO.out.block_lt k e.symm).2; have hk : wr.heap.size ≤ k := hk; omega⟩
      case c3 => exact Nat.le_trans HB.out.size HB2.out.size
      case c4 => have := List.length_take_le j ls; omega
      intro A4 c4 w4 HG4
      have HO4 : Hold (Rep.Own bytesRep 22 w.heap.size (fun k => w.heap.size ≤ k) w4 (.slice A4 (j + 1) c4) (ls.take (j + 1))) := ⟨by rw [HT.out]; have := HG4.out.own; rw [List.length_append, List.length_take, Nat.min_eq_left hj] at this; exact this⟩
      have HB4 : Hold (Below w.heap.size w w4) := ⟨HB.out.trans ((HB2.out.mono HB.out.size).trans (HG4.out.below (fun k hk => (HO.out.block_lt k hk).1) (Nat.le_trans HB.out.size HB2.out.size)))⟩
      go_wp2
      exact ⟨⟨j + 1, by omega, by go_num, HO4, HB4⟩, by simp [intOf]; omega⟩
    · obtain rfl : j = ls.length := by omega
      have hown := HO.out
      rw [List.take_length] at hown
      obtain ⟨A4, c4, rfl, _⟩ := hown.form
      have HO4 := Hold.mk hown
      clear hown
      go_wp2_with (go_at_call 67; refine (Net.len_calls base g J wr v room lost ls HN.out).mono ?_; rintro e w1 ⟨rfl, rfl⟩)
      go_ret
      exact ⟨A4, c4, rfl, HO4, HB⟩

/-- How often bytes stand in a list. -/
def cnt (l : List (List Int)) (b : List Int) : Nat := (l.filter (fun x => decide (x = b))).length
theorem cnt_le (l : List (List Int)) (b : List Int) : cnt l b ≤ l.length := List.length_filter_le _ _
set_option maxHeartbeats 4000000 in
theorem count_calls (A B : Option Addr) (c n m d : Nat) (l : List (List Int)) (b : List Int) (I J : Nat → Prop) (w : World) (hn : n = l.length) (hm : m = b.length) (h : Rep.Row bytesRep I w A l) (hb : Rep.Row (Rep.int .u8) J w B b) :
    Calls Try.prog 72 #[.slice A n c, .slice B m d] w fun e w' => e = .returned (.int .i64 (cnt l b)) ∧ Hold (∃ n, w' = w.drewN n) := by
  subst hn; subst hm
  have H := Hold.mk h
  have HBb := Hold.mk hb
  have hml := h.len_le
  clear h hb
  go_enter Try.func72, Try.ntmps72
  go_wp2
  go_loopw [5, 6] (fun u v wr => ∃ i k : Nat, i ≤ l.length ∧ k ≤ i ∧ u = .int .i64 (k : Int) ∧ v = .int .i64 (i : Int) ∧ Hold (k = cnt (l.take i) b) ∧ Hold (∃ n, wr = w.drewN n)) (fun _ v _ => l.length - (intOf v).toNat)
  case atStart => exact ⟨0, 0, by omega, by omega, rfl, rfl, ⟨by simp [cnt]⟩, ⟨0, rfl⟩⟩
  case round =>
    obtain ⟨i, k, hi, hk, rfl, rfl, HC, HW⟩ := hrel
    by_cases hlt : i < l.length
    · have l1 : (i : Int) < (l.length : Int) := by omega
      obtain ⟨n, rfl⟩ := HW.out
      obtain ⟨ad, cs, rfl, _, _, ⟨A1, c1, rfl, _, _, hr1⟩, hc1⟩ := H.out.at i hlt
      obtain ⟨x, hx⟩ : ∃ b, l[i] = b := ⟨_, rfl⟩
      have hcell : w.cell? (ad.add i) = some (.slice A1 x.length c1) := by have := hc1 0 _ rfl; rw [hx] at this; simpa [Rep.slice] using this
      rw [hx] at hr1
      have HT : Hold (cnt (l.take (i + 1)) b = cnt (l.take i) b + if x = b then 1 else 0) := ⟨by rw [List.take_succ_eq_append_getElem hlt, hx]; unfold cnt; rw [List.filter_append, List.length_append]; by_cases e : x = b <;> simp [e]⟩
      have q1 := fun k : Nat => Rep.row_string (P := Try.prog) (A := A1) (c := c1) Try.underlying22 Try.underlying5 Try.underlying9 (hr1.drewN k)
      have q2 := fun k : Nat => Rep.row_string (P := Try.prog) (A := B) (c := d) Try.underlying22 Try.underlying5 Try.underlying9 (HBb.out.drewN k)
      have HE := Hold.mk (Rep.str_eq (Rep.row_wf hr1) (Rep.row_wf HBb.out))
      have l1n : i < l.length := hlt
      clear hc1 hx hr1
      by_cases hxb : x = b
      · have b1 : ((strOfNums x).toList == (strOfNums b).toList) = true := by rw [HE.out, decide_eq_true hxb]
        have HXb := Hold.mk hxb
        clear hxb
        go_wp2
        go_quiet (fail)
        go_wp2
        refine ⟨⟨i + 1, k + 1, by omega, by omega, by go_num, by go_num, ⟨by rw [HT.out, if_pos HXb.out, HC.out]⟩, ⟨_, rfl⟩⟩, by simp [intOf]; omega⟩
      · have b1 : ((strOfNums x).toList == (strOfNums b).toList) = false := by rw [HE.out, decide_eq_false hxb]
        have HXb := Hold.mk hxb
        clear hxb
        go_wp2
        go_quiet (fail)
        go_wp2
        refine ⟨⟨i + 1, k, by omega, by omega, rfl, by go_num, ⟨by rw [HT.out, if_neg HXb.out, HC.out]; rfl⟩, ⟨_, rfl⟩⟩, by simp [intOf]; omega⟩
    · obtain rfl : i = l.length := by omega
      have HC2 : Hold (k = cnt l b) := ⟨by have := HC.out; rw [List.take_length] at this; exact this⟩
      go_wp2
      go_ret
      exact ⟨by rw [HC2.out]; rfl, HW⟩

theorem right_calls (room : Int) (w : World) (b : Bool) (hb : b = decide (1 ≤ room ∧ room ≤ 4096)) : Calls Try.prog 63 #[.int .i64 room] w fun e w' => e = .returned (.bool b) ∧ w = w' := by
  subst hb
  by_cases h0 : 1 ≤ room
  · by_cases h1 : room ≤ 4096
    · go_enter Try.func63, Try.ntmps63
      go_wp2
      go_ret
      exact ⟨by simp <;> omega, rfl⟩
    · go_enter Try.func63, Try.ntmps63
      go_wp2
      go_ret
      exact ⟨by simp <;> omega, rfl⟩
  · go_enter Try.func63, Try.ntmps63
    go_wp2
    go_ret
    exact ⟨by simp <;> omega, rfl⟩
end Go.Proofs.Ytgeeicpjphdolaa.NetLaw
