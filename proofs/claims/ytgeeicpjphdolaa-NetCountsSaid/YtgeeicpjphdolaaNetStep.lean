/- lictorlaw10.step by its walk: two nets, the program's and the document's, that stand alike, stand alike behind any act. -/
import Derived.Test.YtgeeicpjphdolaaNetAlive
namespace Go.Proofs.Ytgeeicpjphdolaa.NetLaw
open Go.RowKit Go.Proofs.Ytgeeicpjphdolaa.B
open Go.Proofs.Ytgeeicpjphdolaa.Net (NetAt bytesRep info_bytes size_bytes mine fits Sent)
open Go.Proofs.Ytgeeicpjphdolaa.RefNet (RefNetAt Held)

/-- The program's net, and the document's, alike, apart from each other, from block 'base' on. -/
structure Two (base g m : Nat) (w : World) (v u : Value) (room lost : Int) (ls : List (List Int)) : Prop where
  n : NetAt base g (fun k => base ≤ k ∧ k ≠ m) w v room lost ls
  r : RefNetAt (fun k => k ≠ g ∧ k ≠ m ∧ some k ≠ v.ownBlock) m w u room lost ls
  gm : m ≠ g
  mv : v.ownBlock ≠ some m
  bm : base ≤ m

section
variable {base g m : Nat} {w w1 w2 : World} {v u v1 u2 : Value} {room lost l2 : Int} {ls b2 : List (List Int)}
theorem Two.below (h : Two base g m w v u room lost ls) (hb : Below w.heap.size w w1) : Two base g m w1 v u room lost ls := ⟨h.n.below hb, h.r.below hb, h.gm, h.mv, h.bm⟩
theorem Two.size (h : Two base g m w v u room lost ls) : base ≤ w.heap.size := Nat.le_of_lt (Nat.lt_of_le_of_lt h.bm h.r.lt)
theorem Two.mid (h : Two base g m w v u room lost ls) (hf : Fr (mine g v) w w1) (hv : v1.ownBlock = v.ownBlock ∨ ∃ k, v1.ownBlock = some k ∧ w.heap.size ≤ k) : RefNetAt (fun k => k ≠ g ∧ k ≠ m ∧ some k ≠ v1.ownBlock) m w1 u room lost ls := by
  refine h.r.keep (hf.block m h.r.lt ?_) (fun k hk hlt => ⟨⟨hk.1, hk.2.1, ?_⟩, hf.block k hlt ?_⟩)
  · rintro (e | e)
    · exact h.gm e
    · exact h.mv e
  · rcases hv with e | ⟨j, e, hj⟩
    · rw [e]; exact hk.2.2
    · rw [e]; intro e2; injection e2 with e2; omega
  · rintro (e | e)
    · exact hk.1 e
    · exact hk.2.2 e.symm
theorem Two.mv1 (h : Two base g m w v u room lost ls) (hv : v1.ownBlock = v.ownBlock ∨ ∃ k, v1.ownBlock = some k ∧ w.heap.size ≤ k) : v1.ownBlock ≠ some m := by
  rcases hv with e | ⟨j, e, hj⟩
  · rw [e]; exact h.mv
  · rw [e]; intro e2; injection e2 with e2; have := h.r.lt; omega
theorem Two.both (h : Two base g m w v u room lost ls) (hv : v1.ownBlock = v.ownBlock ∨ ∃ k, v1.ownBlock = some k ∧ w.heap.size ≤ k) (hn : NetAt base g (fun k => base ≤ k ∧ k ≠ m) w1 v1 room l2 b2)
    (hr : RefNetAt (fun k => k ≠ g ∧ k ≠ m ∧ some k ≠ v1.ownBlock) m w2 u2 room l2 b2) (hf : Fr (fun k => k = m) w1 w2) : Two base g m w2 v1 u2 room l2 b2 :=
  ⟨hn.keep (hf.block g hn.lt (fun e => h.gm e.symm)) (fun k hk => hf.block k (hn.own.block_lt k hk).2 (fun e => h.mv1 hv (by rw [hk, e]))) (fun k hk _ _ hlt => hf.block k hlt hk.2), hr, h.gm, h.mv1 hv, h.bm⟩
/-- What is new is the document's to use. -/
theorem Two.new (h : Two base g m w v u room lost ls) (hs : w.heap.size ≤ w1.heap.size) (hn : NetAt base g (fun k => base ≤ k ∧ k ≠ m) w1 v1 room l2 b2) : ∀ k, w1.heap.size ≤ k → k ≠ g ∧ k ≠ m ∧ some k ≠ v1.ownBlock := by
  intro k hk
  have h1 := hn.lt
  have h2 := h.r.lt
  exact ⟨by omega, by omega, fun e => by have := (hn.own.block_lt k e.symm).2; omega⟩
end
/-- What may have turned. -/
def ours (g m : Nat) (v : Value) : Nat → Prop := fun k => k = m ∨ mine g v k
theorem ours_ge {base g m : Nat} {w : World} {v u : Value} {room lost : Int} {ls : List (List Int)} (h : Two base g m w v u room lost ls) {k : Nat} (hk : ours g m v k) : base ≤ k ∧ k < w.heap.size := by
  rcases hk with rfl | rfl | hk
  · exact ⟨h.bm, h.r.lt⟩
  · exact ⟨h.n.ge, h.n.lt⟩
  · exact h.n.own.block_lt k hk
theorem ours_fr {g m : Nat} {w w1 w2 : World} {v : Value} (h1 : Fr (mine g v) w w1) (h2 : Fr (fun k => k = m) w1 w2) : Fr (ours g m v) w w2 :=
  (h1.mono (M' := ours g m v) (fun _ _ h => .inr h)).trans h2 (fun _ _ h => .inl h)
/-- What a step leaves: at most q were lost. -/
def Alike (base g m : Nat) (room : Int) (q : Nat) (w : World) : Prop := ∃ v u lost ls, Two base g m w v u room lost ls ∧ 0 ≤ lost ∧ lost ≤ q

set_option maxHeartbeats 4000000 in
set_option maxRecDepth 100000 in
theorem step_calls (base g m : Nat) (w : World) (v u : Value) (room lost : Int) (ls : List (List Int)) (q : Nat) (h : Two base g m w v u room lost ls) (hl0 : 0 ≤ lost) (hl1 : lost ≤ q) (hq : q ≤ 10000) (k n : Int) (A1 : Option Addr) (c1 : Nat) (b : List (List Int)) (hk : (Lit.int .u8 k).wf = true)
    (hrow : Rep.Row bytesRep (fun k => k < base) w A1 b) (hlc : b.length ≤ c1) (hb80 : b.length ≤ 80) (hb3 : ∀ x ∈ b, x.length ≤ 3000) :
    Calls Try.prog 64 #[.pointer (some ⟨g, 0, none⟩), .pointer (some ⟨m, 0, none⟩), .agg #[.int .u8 k, .slice A1 b.length c1, .int .i64 n]] w fun e w' =>
      e = .returned (.bool true) ∧ Hold (Fr (ours g m v) w w') ∧ Hold (Alike base g m room (q + 80) w') := by
  obtain ⟨w0, hw0⟩ : ∃ W, w.alloc (.cells #[.int .u8 k, .slice A1 b.length c1, .int .i64 n] 80) = W := ⟨_, rfl⟩
  have hb0 : Below w.heap.size w w0 := by rw [← hw0]; exact (Below.refl _ _).alloc (Nat.le_refl _) _
  have h0 := h.below hb0
  have hr0 := hrow.below hb0
  have hblk : w0.heap[w.heap.size]? = some (.cells #[.int .u8 k, .slice A1 b.length c1, .int .i64 n] 80 (0, 0)) := by
    rw [← hw0]; show (w.heap.push _)[w.heap.size]? = _; simp
  have a0 : w0.cell? ⟨w.heap.size, 0, none⟩ = some (.int .u8 k) := by simp [World.cell?, hblk]
  have a1 : w0.cell? ⟨w.heap.size, 1, none⟩ = some (.slice A1 b.length c1) := by simp [World.cell?, hblk]
  have a2 : w0.cell? ⟨w.heap.size, 2, none⟩ = some (.int .i64 n) := by simp [World.cell?, hblk]
  obtain ⟨k0, k1⟩ := bounds_u8 hk
  have H0 := Hold.mk h0
  have HR0 := Hold.mk hr0
  have HB0 := Hold.mk hb0
  have HBlk := Hold.mk hblk
  have HSz := Hold.mk h.size
  have HLt := Hold.mk (And.intro h.n.lt (fun k hk => (h.n.own.block_lt k hk).2))
  have HB3 := Hold.mk hb3
  have HOwn := Hold.mk (fun k hk => h0.n.own.block_lt k hk)
  -- the act's own box stays behind what the program's net does
  have HBox : ∀ w1, Fr (mine g v) w0 w1 → w1.heap[w.heap.size]? = some (.cells #[.int .u8 k, .slice A1 b.length c1, .int .i64 n] 80 (0, 0)) := fun w1 hf => (hf.block _ (Array.getElem?_eq_some_iff.1 hblk).1 (by
    rintro (e | e)
    · have := h.n.lt; omega
    · have := (h.n.own.block_lt _ e).2; omega)).trans hblk
  replace HBox := Hold.mk HBox
  have HRow : ∀ w1, Fr (mine g v) w0 w1 → Rep.Row bytesRep (fun k => k < base) w1 A1 b := fun w1 hf => hr0.move fun k hk hlt => ⟨hk, hf.block k hlt (by
    rintro (e | e)
    · have := h0.n.ge; have hk : k < base := hk; omega
    · have := h0.n.own.block_lt k e; have hk : k < base := hk; omega)⟩
  replace HRow := Hold.mk HRow
  have HF0 : ∀ w2, Fr (ours g m v) w0 w2 → Fr (ours g m v) w w2 := fun w2 hf => (Fr.of_below (ours g m v) hb0).trans hf (fun _ _ h => h)
  replace HF0 := Hold.mk HF0
  clear hk h0 hr0 hb0 hblk h hrow hb3
  have k5 : k % 5 = 0 ∨ k % 5 = 1 ∨ k % 5 = 2 ∨ k % 5 = 3 ∨ k % 5 = 4 := by omega
  go_enter Try.func64, Try.ntmps64
  rcases k5 with e5 | e5 | e5 | e5 | e5
  iterate 2
    · go_wp2_with fail
      refine (Net.send_calls base g (fun k => base ≤ k ∧ k ≠ m) w0 v room lost ls H0.out.n A1 c1 b (fun k => k < base) HR0.out hlc (by rintro k hk _ (e | e); (have := H0.out.n.ge; have hk : k < base := hk; omega); (have := (HOwn.out k e).1; have hk : k < base := hk; omega)) HB3.out (by omega) (fun k hk => by have := H0.out.r.lt; have := H0.out.size; exact ⟨by omega, by omega⟩) hl0 (by omega) H0.out.size).mono ?_
      rintro e w1 ⟨rfl, hf1, v1, hn1, hv1⟩
      have hr1 := H0.out.mid hf1 hv1
      have hm1 : lost + ((b.length : Int) - (fits room b.length ls.length : Nat)) ≤ q + 80 ∧ 0 ≤ lost + ((b.length : Int) - (fits room b.length ls.length : Nat)) := by unfold fits; omega
      have b1 : w1.cell? ⟨w.heap.size, 1, none⟩ = some (.slice A1 b.length c1) := by simp [World.cell?, HBox.out w1 hf1]
      have HM1 := Hold.mk hm1
      have HF1 := Hold.mk hf1
      have HN1 := Hold.mk hn1
      have HV1 := Hold.mk hv1
      have HR1 := Hold.mk hr1
      clear hf1 hn1 hv1 hr1 hm1
      go_wp2_with fail
      refine (RefNet.send_calls _ m w1 u room lost ls HR1.out A1 c1 b ((HRow.out w1 HF1.out).move (J := fun k => k ≠ g ∧ k ≠ m ∧ some k ≠ v1.ownBlock) fun k hk _ => ⟨by
        have hk : k < base := hk
        have h1 := H0.out.n.ge
        have h2 := H0.out.bm
        exact ⟨by omega, by omega, fun e => by have := (HN1.out.own.block_lt k e.symm).1; omega⟩, rfl⟩) (H0.out.new HF1.out.size HN1.out) (fun k hk => hk.2.1) hl0 (by omega)).mono ?_
      rintro e w2 ⟨rfl, ⟨u2, hr2⟩, HF2⟩
      have HT2 : Hold (Alike base g m room (q + 80) w2) := ⟨_, _, _, _, H0.out.both HV1.out HN1.out hr2 HF2.out, HM1.out.2, by have := HM1.out.1; push_cast; omega⟩
      have HFo := Hold.mk (HF0.out w2 (ours_fr HF1.out HF2.out))
      clear hr2
      go_wp2
      go_ret
      exact ⟨rfl, HFo, HT2⟩
  iterate 2
    · by_cases hn : n < 0 ∨ (ls.length : Int) ≤ n
      · have HNo := Hold.mk hn
        have HT2 : Hold (Alike base g m room (q + 80) w0) := ⟨_, _, _, _, H0.out, hl0, by push_cast; omega⟩
        have HFo := Hold.mk (HF0.out w0 (Fr.refl _ _))
        have q0 : (convert 22 9 (.slice none 0 0)).run Try.prog w0 = .ok (.string (strOfNums [])) w0 := Rep.row_string (P := Try.prog) (A := none) (c := 0) Try.underlying22 Try.underlying5 Try.underlying9 (Rep.Row.nil (Rep.int .u8) nob w0 none)
        clear hn
        go_wp2_with fail
        refine (Net.take_no base g _ w0 v room lost ls H0.out.n n HNo.out).mono ?_
        rintro e w1 ⟨rfl, rfl⟩
        go_wp2_with fail
        refine (RefNet.take_no _ m w0 u room lost ls H0.out.r n HNo.out).mono ?_
        rintro e w1 ⟨rfl, rfl⟩
        go_wp2
        go_ret
        exact ⟨rfl, HFo, HT2⟩
      · obtain ⟨i, rfl⟩ : ∃ i : Nat, n = i := ⟨n.toNat, by omega⟩
        have hi : i < ls.length := by omega
        obtain ⟨x, hx⟩ : ∃ x, ls[i]? = some x := ⟨_, List.getElem?_eq_getElem hi⟩
        have HI := Hold.mk hi
        have HX := Hold.mk hx
        clear hn hi hx
        go_wp2_with fail
        refine (Net.take_yes base g _ w0 v room lost ls H0.out.n i HI.out x HX.out).mono ?_
        rintro e w1 ⟨A2, c2, rfl, _, hf1, ho1, v1, hn1, hv1⟩
        have b2 : w1.cell? ⟨w.heap.size, 2, none⟩ = some (.int .i64 (i : Int)) := by simp [World.cell?, HBox.out w1 hf1]
        have HF1 := Hold.mk hf1
        have HN1 := Hold.mk hn1
        have HV1 : Hold (v1.ownBlock = v.ownBlock ∨ ∃ k, v1.ownBlock = some k ∧ w0.heap.size ≤ k) := ⟨.inl hv1⟩
        have HR1 := Hold.mk (H0.out.mid hf1 HV1.out)
        have HO1 := Hold.mk ho1
        clear hf1 hn1 hv1 ho1
        go_wp2_with fail
        refine (RefNet.take_yes _ m w1 u room lost ls HR1.out i HI.out x HX.out (H0.out.new HF1.out.size HN1.out) (fun k hk => hk.2.1)).mono ?_
        rintro e w2 ⟨A3, c3, rfl, HW2, ⟨u2, hr2⟩, HF2⟩
        have HT2 : Hold (Alike base g m room (q + 80) w2) := ⟨_, _, _, _, H0.out.both HV1.out HN1.out hr2 HF2.out, hl0, by push_cast; omega⟩
        have HFo := Hold.mk (HF0.out w2 (ours_fr HF1.out HF2.out))
        have q1 := Rep.row_string (P := Try.prog) (A := A2) (c := c2) Try.underlying22 Try.underlying5 Try.underlying9 (Rep.Own.row (w := w2) (HO1.out.move (J := nob) (fun k hk => HF2.out.block k (HO1.out.block_lt k hk).2 (by have := (HO1.out.block_lt k hk).1; have := H0.out.r.lt; omega)) (fun _ hi _ _ => hi.elim)))
        have q2 := Rep.row_string (P := Try.prog) (A := A3) (c := c3) Try.underlying22 Try.underlying5 Try.underlying9 HW2.out
        have qe : ((strOfNums x).toList == (strOfNums x).toList) = true := by simp
        clear hr2 b2
        go_wp2
        go_ret
        exact ⟨rfl, HFo, HT2⟩
  · by_cases hn : n < 0 ∨ (ls.length : Int) ≤ n
    · have HNo := Hold.mk hn
      have HT0 := Hold.mk (H0.out)
      clear hn
      go_wp2_with fail
      refine (Net.double_no base g _ w0 v room lost ls H0.out.n n HNo.out).mono ?_
      rintro e w1 ⟨rfl, k1, rfl⟩
      go_wp2_with fail
      refine (RefNet.double_no _ m (w0.drewN k1) u room lost ls (H0.out.r.below (below_drewN w0 k1)) n (by have := HNo.out; omega)).mono ?_
      rintro e w1 ⟨rfl, k2, rfl⟩
      go_wp2
      go_ret
      exact ⟨rfl, ⟨HF0.out _ ((Fr.refl _ w0).drewN _)⟩, ⟨_, _, _, _, H0.out.below (below_drewN w0 _), hl0, by push_cast; omega⟩⟩
    · obtain ⟨i, rfl⟩ : ∃ i : Nat, n = i := ⟨n.toNat, by omega⟩
      have hi : i < ls.length := by omega
      obtain ⟨x, hx⟩ : ∃ x, ls[i]? = some x := ⟨_, List.getElem?_eq_getElem hi⟩
      have hle := H0.out.n.ok.2.2
      have HI := Hold.mk hi
      have HX := Hold.mk hx
      by_cases hfull : room ≤ ls.length
      · have HFull := Hold.mk hfull
        have HEq : Hold ((ls.length : Int) = room) := ⟨by omega⟩
        clear hn hi hx hfull hle
        go_wp2_with fail
        refine (Net.double_full base g _ w0 v room lost ls H0.out.n i HI.out HFull.out).mono ?_
        rintro e w1 ⟨rfl, hb1⟩
        have HT1 := Hold.mk (H0.out.below hb1)
        have b2 : w1.cell? ⟨w.heap.size, 2, none⟩ = some (.int .i64 (i : Int)) := by simp [World.cell?, HBox.out w1 (Fr.of_below _ hb1)]
        have HF1 := Hold.mk (Fr.of_below (ours g m v) hb1)
        clear hb1
        go_wp2_with fail
        refine (RefNet.double_no _ m w1 u room lost ls HT1.out.r i (.inr (.inr HEq.out))).mono ?_
        rintro e w2 ⟨rfl, k2, rfl⟩
        go_wp2
        go_ret
        exact ⟨rfl, ⟨HF0.out _ (HF1.out.drewN k2)⟩, ⟨_, _, _, _, HT1.out.below (below_drewN w1 k2), hl0, by push_cast; omega⟩⟩
      · have HRoom : Hold ((ls.length : Int) < room) := ⟨by omega⟩
        clear hn hi hx hfull hle
        go_wp2_with fail
        refine (Net.double_yes base g _ w0 v room lost ls H0.out.n i HI.out HRoom.out x HX.out (fun k hk => by have := H0.out.r.lt; have := H0.out.size; exact ⟨by omega, by omega⟩)).mono ?_
        rintro e w1 ⟨rfl, hf1, v1, hn1, hv1⟩
        have b2 : w1.cell? ⟨w.heap.size, 2, none⟩ = some (.int .i64 (i : Int)) := by simp [World.cell?, HBox.out w1 hf1]
        have HF1 := Hold.mk hf1
        have HN1 := Hold.mk hn1
        have HV1 := Hold.mk hv1
        have HR1 := Hold.mk (H0.out.mid hf1 hv1)
        clear hf1 hn1 hv1
        go_wp2_with fail
        refine (RefNet.double_yes _ m w1 u room lost ls HR1.out i HI.out HRoom.out x HX.out (H0.out.new HF1.out.size HN1.out) (fun k hk => hk.2.1)).mono ?_
        rintro e w2 ⟨rfl, ⟨u2, hr2⟩, HF2⟩
        have HT2 : Hold (Alike base g m room (q + 80) w2) := ⟨_, _, _, _, H0.out.both HV1.out HN1.out hr2 HF2.out, hl0, by push_cast; omega⟩
        have HFo := Hold.mk (HF0.out w2 (ours_fr HF1.out HF2.out))
        clear hr2
        go_wp2
        go_ret
        exact ⟨rfl, HFo, HT2⟩
end Go.Proofs.Ytgeeicpjphdolaa.NetLaw
