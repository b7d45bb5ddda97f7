/- net.Send by its walk. -/
import Derived.Test.YtgeeicpjphdolaaNet
namespace Go.Proofs.Ytgeeicpjphdolaa.Net
open Go.RowKit Go.Proofs.Ytgeeicpjphdolaa.B

theorem send_nil (w : World) (a : Value) : Calls Try.prog 71 #[.pointer none, a] w fun e w' => e = .returned (.int .i64 0) ∧ w = w' := by
  go_enter Try.func71, Try.ntmps71
  go_wp2
  go_ret
  exact ⟨rfl, rfl⟩

/-- A clone in a box, as a row of one. -/
theorem boxed {B : Nat} {w3 : World} {A3 : Option Addr} {c3 : Nat} {b : List Int} (hown : Rep.Own (Rep.int .u8) 5 B nob w3 (.slice A3 b.length c3) b) (hb : B ≤ w3.heap.size) :
    Rep.Row bytesRep (fun k => B ≤ k) (w3.alloc (.cells #[.slice A3 b.length c3] 22)) (some ⟨w3.heap.size, 0, none⟩) [b] := by
  have hlc : b.length ≤ c3 := by obtain ⟨_, _, e, hl⟩ := hown.form; injection e with _ _ e; omega
  have hk : bytesRep.K (fun k => B ≤ k) w3 b [.slice A3 b.length c3] := ⟨A3, c3, rfl, hlc, hown.cap_nil _ _ _ rfl, hown.row.move fun k hk _ => ⟨(hown.block_lt k (hk.resolve_left (fun h => h.elim))).1, rfl⟩⟩
  exact (Rep.row_box (d := bytesRep) 22 hk).move fun k hk _ => ⟨by rcases hk with hk | rfl; exact hk; exact hb, rfl⟩

/-- A frame more, laid in the net. -/
theorem pushed {base g : Nat} {J : Nat → Prop} {wr w3 w4 : World} {v v4 : Value} {room lost : Int} {L : List (List Int)} {b : List Int} {o : Obj}
    (HN : NetAt base g J wr v room lost L) (hb3 : Below wr.heap.size wr w3) (hg4 : (w3.alloc o).grownBy w4 v.ownBlock)
    (hown4 : Rep.Own bytesRep 22 base (fun k => (J k ∧ k ≠ g) ∨ wr.heap.size ≤ k) w4 v4 (L ++ [b])) (hat4 : v4.ownBlock = v.ownBlock ∨ v4.ownBlock = some (w3.alloc o).heap.size)
    (hJ : ∀ k, wr.heap.size ≤ k → J k) (hbl : b.length ≤ 3000) (hLr : (L.length : Int) < room) :
    NetAt base g J (w4.setCell ⟨g, 2, none⟩ v4) v4 room lost (L ++ [b]) ∧ Fr (mine g v) wr (w4.setCell ⟨g, 2, none⟩ v4) ∧ (v4.ownBlock = v.ownBlock ∨ ∃ k, v4.ownBlock = some k ∧ wr.heap.size ≤ k) := by
  have hN3 := (HN.below hb3).below ((Below.refl _ w3).alloc (Nat.le_refl _) o)
  have hblk : w4.heap[g]? = some (.cells #[.int .i64 room, .int .i64 lost, v] 97 (0, 0)) := (hg4.block g hN3.lt (Ne.symm HN.mine)).trans hN3.block
  have hfr : Fr (mine g v) wr w4 := (Fr.alloc (Fr.of_below _ hb3) o).grown hg4 (fun k hk => .inl (.inr hk))
  refine ⟨NetAt.set hblk (hown4.mono fun k hk _ _ => ?_) HN.ge ⟨HN.ok.1, HN.ok.2.1, by rw [List.length_append]; simp; omega⟩ (fun x hx => ?_), hfr.setCell (p := ⟨g, 2, none⟩) (.inl (.inl rfl)) _, ?_⟩
  · rcases hk with hk | hk
    · exact hk
    · exact ⟨hJ k hk, by have := HN.lt; omega⟩
  · rcases List.mem_append.1 hx with hx | hx
    · exact HN.small x hx
    · rw [List.mem_singleton.1 hx]; exact hbl
  · rcases hat4 with h | h
    · exact .inl h
    · exact .inr ⟨_, h, by have := hb3.size; simp; omega⟩

/-- More were lost. -/
theorem lostMore {base g : Nat} {J : Nat → Prop} {w : World} {v : Value} {room lost : Int} {ls : List (List Int)} (h : NetAt base g J w v room lost ls) (n : Int) :
    NetAt base g J (w.setCell ⟨g, 1, none⟩ (.int .i64 n)) v room n ls :=
  ⟨blk_set w g 1 _ h.block, h.own.move (fun k hk => Below.heap_setCell _ _ _ _ (fun e => h.mine (by rw [hk, e]))) (fun k hk _ _ => ⟨hk, Below.heap_setCell _ _ _ _ hk.2⟩), h.ge, h.ok, h.small⟩

theorem sendJ {base g : Nat} {J : Nat → Prop} {wr : World} {v : Value} {room lost : Int} {L : List (List Int)} (HN : NetAt base g J wr v room lost L) {W : World} : ∀ k, wr.heap.size ≤ k → k < W.heap.size → some k ≠ v.ownBlock := by
  intro k hk _ he
  have := (HN.own.block_lt k he.symm).2
  omega
theorem sendB {base : Nat} {w wr W : World} (h : base ≤ w.heap.size) (h1 : w.heap.size ≤ wr.heap.size) (h2 : wr.heap.size ≤ W.heap.size) : base ≤ W.heap.size := by omega
theorem sendL {base g : Nat} {J : Nat → Prop} {wr : World} {v : Value} {room lost : Int} {L : List (List Int)} {b : List Int} (HN : NetAt base g J wr v room lost L) (h : (L.length : Int) < room) : (L.length + [b].length) * 24 ≤ 140737488355328 := by
  have := HN.ok
  simp
  omega

/-- How many there is room for. -/
def fits (room n len : Int) : Nat := (min n (room - len)).toNat
/-- A net that holds these, its row its own or new. -/
def Sent (base g : Nat) (J : Nat → Prop) (w : World) (v : Value) (room lost : Int) (ls : List (List Int)) (w' : World) : Prop :=
  ∃ v', NetAt base g J w' v' room lost ls ∧ (v'.ownBlock = v.ownBlock ∨ ∃ k, v'.ownBlock = some k ∧ w.heap.size ≤ k)

set_option maxHeartbeats 4000000 in
set_option maxRecDepth 100000 in
theorem send_calls (base g : Nat) (J : Nat → Prop) (w : World) (v : Value) (room lost : Int) (ls : List (List Int)) (h : NetAt base g J w v room lost ls) (A : Option Addr) (c : Nat) (l : List (List Int)) (I : Nat → Prop) (hr : Rep.Row bytesRep I w A l) (hl : l.length ≤ c)
    (hI : ∀ k, I k → k < w.heap.size → ¬ mine g v k) (hs : ∀ x ∈ l, x.length ≤ 3000) (hll : l.length ≤ 4000) (hJ : ∀ k, w.heap.size ≤ k → J k) (h0 : 0 ≤ lost) (h1 : lost ≤ 1000000000) (hbase : base ≤ w.heap.size) :
    Calls Try.prog 71 #[.pointer (some ⟨g, 0, none⟩), .slice A l.length c] w fun e w' => e = .returned (.int .i64 (fits room l.length ls.length)) ∧ Fr (mine g v) w w' ∧
      Sent base g J w v room (lost + (l.length - fits room l.length ls.length)) (ls ++ l.take (fits room l.length ls.length)) w' := by
  obtain ⟨A0, c0', rfl, _⟩ := h.own.form
  have c0 := h.c0
  have c2 := h.c2
  have hok := h.ok
  obtain ⟨k, hk⟩ : ∃ k, fits room l.length ls.length = k := ⟨_, rfl⟩
  have hkl : k ≤ l.length := by rw [← hk]; unfold fits; omega
  have q1 : IntKind.i64.wrap (room - (ls.length : Int)) = room - ls.length := by rw [IntKind.wrap_i64]; omega
  have q2 : (if room - (ls.length : Int) < (l.length : Int) then room - (ls.length : Int) else (l.length : Int)) = (k : Int) := by rw [← hk]; unfold fits; split <;> omega
  have s1 := fun W => Rep.run_cut_to (P := Try.prog) 27 22 .i64 Try.underlying27 size_bytes A l.length c (k : Int) (by omega) (by omega) W
  have HK := Hold.mk hk
  have H := Hold.mk h
  have HR := Hold.mk hr
  have HI := Hold.mk hI
  have HS := Hold.mk hs
  have HJ := Hold.mk hJ
  have HB := Hold.mk hbase
  have hmx := hr.len_le
  clear h hok hk hr hI hs hJ hbase
  go_enter Try.func71, Try.ntmps71
  go_wp2
  go_quiet (fail)
  obtain ⟨w1, hw1⟩ : ∃ W, w.drewN nq = W := ⟨_, rfl⟩
  have hb1 : Below w.heap.size w w1 := by rw [← hw1]; exact below_drewN w nq
  rw [hw1]
  have HS1 : Hold (Sent base g J w (.slice A0 ls.length c0') room lost (ls ++ l.take 0) w1) := ⟨_, by simpa using H.out.below hb1, .inl rfl⟩
  have HF1 : Hold (Fr (mine g (.slice A0 ls.length c0')) w w1) := ⟨Fr.of_below _ hb1⟩
  clear hw1 hb1 c0 c2 q1 q2
  rw [show ((k : Int)).toNat = k by omega] at s1
  go_wp2
  go_loopw [7, 27] (fun _ s wr => ∃ j : Nat, j ≤ k ∧ s = .int .i64 (j : Int) ∧ Hold (Sent base g J w (.slice A0 ls.length c0') room lost (ls ++ l.take j) wr) ∧ Hold (Fr (mine g (.slice A0 ls.length c0')) w wr)) (fun _ s _ => k - (intOf s).toNat)
  case atStart => exact ⟨0, by omega, rfl, HS1, HF1⟩
  case round =>
    obtain ⟨j, hj, rfl, HSj, HFj⟩ := hrel
    by_cases hlt : j < k
    · obtain ⟨v2, hN, hat⟩ := HSj.out
      have hrj : Rep.Row bytesRep I wr A l := HR.out.move fun q hq hlt => ⟨hq, HFj.out.block q hlt (HI.out q hq hlt)⟩
      obtain ⟨ad, cs, rfl, _, _, ⟨A1, c1, rfl, hl1, hn1, hr1⟩, hc1⟩ := hrj.at j (by omega)
      obtain ⟨b, hb⟩ : ∃ b, l[j] = b := ⟨_, rfl⟩
      have hcell : wr.cell? (ad.add j) = some (.slice A1 b.length c1) := by have := hc1 0 _ rfl; rw [hb] at this; simpa [Rep.slice] using this
      rw [hb] at hl1 hr1
      have hbl : b.length ≤ 3000 := HS.out b (by rw [← hb]; exact List.getElem_mem _)
      obtain ⟨A2, c2', hv2, _⟩ := hN.own.form
      subst hv2
      obtain ⟨L, hL⟩ : ∃ L, ls ++ l.take j = L := ⟨_, rfl⟩
      have hL2 : ls ++ l.take (j + 1) = L ++ [b] := by rw [← hL, List.append_assoc]; congr 1; rw [List.take_succ_eq_append_getElem (by omega), hb]
      have hLr : (L.length : Int) < room := by
        have := H.out.ok; have hk := HK.out; unfold fits at hk
        rw [← hL, List.length_append, List.length_take]; omega
      rw [hL] at hN hat
      have c2 := hN.c2
      have HN := Hold.mk hN
      have HAt := Hold.mk hat
      have HL2 := Hold.mk hL2
      have HR1 := Hold.mk hr1
      have HN1 := Hold.mk hn1
      have HBl := Hold.mk hbl
      have HLr := Hold.mk hLr
      have HL1 := Hold.mk hl1
      have l1 : (j : Int) < (k : Int) := by omega
      clear hN hat hL hL2 hr1 hn1 hbl hLr hl1 hc1 hrj hb
      go_wp2_with fail
      go_region_law (first
        | (go_simp; go_at_call 80; (refine (Clone.clone_calls A1 c1 b _ _ (by first | exact HR1.out | exact HR1.out.drew) HN1.out (by have := HBl.out; omega)).mono ?_); rintro e w3 ⟨A3, c3, rfl, _, hown3, hb3⟩; have hN3 := (HN.out.keep (w' := wr.drew) rfl (fun _ _ => rfl) (fun _ _ _ _ _ => rfl)).below hb3; have c2c := hN3.c2; have c2d := (hN3.below ((Below.refl _ w3).alloc (Nat.le_refl _) (.cells #[.slice A3 b.length c3] 22))).c2; (try dsimp only))
        | (refine step_append bytesRep rfl (.tmp 35) (.tmp 38) 27 22 (.slice none 0 0) 24 rfl Try.underlying27 info_bytes rfl (by decide) (by decide) base _ L [b] _ 1 1 (by simp [Act.eval, Act.put]) (by simp [Act.eval, Act.put]) rfl (hN3.own.alloc _) (boxed hown3 hb3.size) (sendJ HN.out) (fun h => by cases h) (sendB HB.out HFj.out.size (Nat.le_trans (by simp) (Nat.le_trans hb3.size (by simp)))) (sendL HN.out HLr.out) ?_; intro v4 w4 hown4 hg4 hat4; have HP := Hold.mk (pushed HN.out (Below.trans (below_drewN wr 1) hb3) hg4 hown4 hat4 (fun q hq => HJ.out q (Nat.le_trans HFj.out.size hq)) HBl.out HLr.out); obtain ⟨A4, c4, hv4, _⟩ := hown4.form; rw [hv4] at HP; rw [hv4] at hown4 hat4 ⊢; have hblk : w4.heap[g]? = some (.cells #[.int .i64 room, .int .i64 lost, .slice A2 L.length c2'] 97 (0, 0)) := (hg4.block g (hN3.below ((Below.refl _ w3).alloc (Nat.le_refl _) _)).lt (Ne.symm HN.out.mine)).trans (hN3.below ((Below.refl _ w3).alloc (Nat.le_refl _) _)).block; have f4 : w4.frozen? ⟨g, 2, none⟩ = false := (by simp [World.frozen?, hblk]); have cc4 : w4.cell? ⟨g, 2, none⟩ = some (.slice A2 L.length c2') := (by simp [World.cell?, hblk])))
      all_goals (
        go_wp2
        have hp := HP.out
        have hlen : (L ++ [b]).length = L.length + 1 := by simp
        rw [hlen] at hp
        refine ⟨⟨j + 1, by omega, by go_num, ⟨_, by rw [HL2.out]; exact hp.1, ?_⟩, ⟨HFj.out.trans hp.2.1 ?_⟩⟩, by simp [intOf]; omega⟩
        · rcases hp.2.2 with e | ⟨q, e, hq⟩
          · rcases HAt.out with e2 | ⟨q, e2, hq⟩
            · exact .inl (e.trans e2)
            · exact .inr ⟨q, e.trans e2, hq⟩
          · exact .inr ⟨q, e, Nat.le_trans HFj.out.size hq⟩
        · intro q hq hm
          rcases hm with hm | hm
          · exact .inl hm
          · rcases HAt.out with e2 | ⟨q2, e2, hq2⟩
            · exact .inr (e2.symm.trans hm)
            · rw [hm] at e2; injection e2 with e2; omega)
    · obtain rfl : j = k := by omega
      obtain ⟨v2, hN, hat⟩ := HSj.out
      have c1 := hN.c1
      have f1 := hN.free 1
      have HN := Hold.mk (lostMore hN (lost + ((l.length : Int) - (j : Int))))
      have HAt := Hold.mk hat
      have q1 : IntKind.i64.wrap ((l.length : Int) - (j : Int)) = l.length - j := by rw [IntKind.wrap_i64]; omega
      have q2 : IntKind.i64.wrap (lost + ((l.length : Int) - (j : Int))) = lost + (l.length - j) := by rw [IntKind.wrap_i64]; omega
      clear hN hat
      go_wp2
      go_ret
      rw [HK.out]
      exact ⟨rfl, HFj.out.setCell (p := ⟨g, 1, none⟩) (.inl (.inl rfl)) _, _, HN.out, HAt.out⟩
end Go.Proofs.Ytgeeicpjphdolaa.Net
