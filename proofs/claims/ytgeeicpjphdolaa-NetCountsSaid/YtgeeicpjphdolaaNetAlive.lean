/- lictorlaw10.alive by its walk; no condition. -/
import Derived.Test.YtgeeicpjphdolaaNetLaw
import Derived.Lib.SlBytesConst
namespace Go.Proofs.Ytgeeicpjphdolaa.NetLaw
open Go.RowKit Go.Proofs.Ytgeeicpjphdolaa.B
open Go.Proofs.Ytgeeicpjphdolaa.Net (NetAt bytesRep info_bytes size_bytes mine fits Sent)

theorem fr_below {base g : Nat} {J : Nat → Prop} {w w' : World} {v : Value} {room lost : Int} {ls : List (List Int)} (h : NetAt base g J w v room lost ls) (hf : Fr (mine g v) w w') : Below base w w' :=
  have hs : base ≤ w.heap.size := Nat.le_of_lt (Nat.lt_of_le_of_lt h.ge h.lt)
  ⟨hf.os, hf.tape, hf.output, hf.size, fun k hk => hf.block k (Nat.lt_of_lt_of_le hk hs) (by
    rintro (e | e)
    · have := h.ge; omega
    · have := h.own.block_lt k e; omega)⟩
/-- Bytes of one's own that are not the net's stay. -/
theorem own_stays {base b g : Nat} {J : Nat → Prop} {w w' : World} {v x : Value} {room lost : Int} {ls : List (List Int)} {xs : List Int} (h : NetAt base g J w v room lost ls) (hf : Fr (mine g v) w w') (ho : Rep.Own (Rep.int .u8) 5 b nob w x xs) (hb : g < b) (hv : ∀ k, v.ownBlock = some k → k < b) :
    Rep.Own (Rep.int .u8) 5 b nob w' x xs :=
  ho.move (fun k hk => by
    have h1 := ho.block_lt k hk
    exact hf.block k h1.2 (by
      rintro (e | e)
      · omega
      · have := hv k e; omega)) (fun _ hi _ _ => hi.elim)

set_option maxRecDepth 100000 in
set_option maxHeartbeats 4000000 in
theorem alive_calls (w : World) : Calls Try.prog 61 #[] w fun e w' => e = .returned (.bool true) ∧ Below w.heap.size w w' := by
  have ra : ∀ (W : World) (x : Int), (Lit.int .u8 x).wf = true → Rep.Row (Rep.int .u8) (fun b => b = W.heap.size) (W.alloc (.cells #[.int .u8 x] 5 (1, 2))) (some ⟨W.heap.size, 0, none⟩) [x] := fun W x hx =>
    Rep.row_lit W 5 (1, 2) [x] (by simp [maxLen]) (by simpa using hx)
  have rl : ∀ (W : World) (g : Nat), g < W.heap.size → Rep.Row bytesRep (fun k => g < k) (((((W.alloc (.cells #[.int .u8 97] 5 (1, 2))).alloc (.cells #[.int .u8 98] 5 (1, 2))).alloc (.cells #[.int .u8 99] 5 (1, 2))).alloc (.cells #[.int .u8 100] 5 (1, 2))).alloc
      (.cells #[.slice (some ⟨W.heap.size, 0, none⟩) 1 1, .slice (some ⟨W.heap.size + 1, 0, none⟩) 1 1, .slice (some ⟨W.heap.size + 1 + 1, 0, none⟩) 1 1, .slice (some ⟨W.heap.size + 1 + 1 + 1, 0, none⟩) 1 1] 22)) (some ⟨W.heap.size + 1 + 1 + 1 + 1, 0, none⟩) [[97], [98], [99], [100]] := by
    intro W g hg
    obtain ⟨W1, h1⟩ : ∃ X, W.alloc (.cells #[.int .u8 97] 5 (1, 2)) = X := ⟨_, rfl⟩
    obtain ⟨W2, h2⟩ : ∃ X, W1.alloc (.cells #[.int .u8 98] 5 (1, 2)) = X := ⟨_, rfl⟩
    obtain ⟨W3, h3⟩ : ∃ X, W2.alloc (.cells #[.int .u8 99] 5 (1, 2)) = X := ⟨_, rfl⟩
    obtain ⟨W4, h4⟩ : ∃ X, W3.alloc (.cells #[.int .u8 100] 5 (1, 2)) = X := ⟨_, rfl⟩
    have s1 : W1.heap.size = W.heap.size + 1 := by rw [← h1]; simp
    have s2 : W2.heap.size = W.heap.size + 1 + 1 := by rw [← h2, ← s1]; simp
    have s3 : W3.heap.size = W.heap.size + 1 + 1 + 1 := by rw [← h3, ← s2]; simp
    have s4 : W4.heap.size = W.heap.size + 1 + 1 + 1 + 1 := by rw [← h4, ← s3]; simp
    have b1 : Below W1.heap.size W1 W4 := by
      rw [← h4, ← h3, ← h2]; exact (((Below.refl _ _).alloc (Nat.le_refl _) _).alloc (by simp) _).alloc (by simp; omega) _
    have b2 : Below W2.heap.size W2 W4 := by rw [← h4, ← h3]; exact ((Below.refl _ _).alloc (Nat.le_refl _) _).alloc (by simp) _
    have b3 : Below W3.heap.size W3 W4 := by rw [← h4]; exact (Below.refl _ _).alloc (Nat.le_refl _) _
    have r1 : Rep.Row (Rep.int .u8) (fun k => g < k) W4 (some ⟨W.heap.size, 0, none⟩) [97] := ((by rw [← h1]; exact ra W 97 (by decide) : Rep.Row (Rep.int .u8) (fun k => k = W.heap.size) W1 _ _).below b1).move fun k hk _ => ⟨by omega, rfl⟩
    have r2 : Rep.Row (Rep.int .u8) (fun k => g < k) W4 (some ⟨W.heap.size + 1, 0, none⟩) [98] := ((by rw [← h2, ← s1]; exact ra W1 98 (by decide) : Rep.Row (Rep.int .u8) (fun k => k = W1.heap.size) W2 _ _).below b2).move fun k hk _ => ⟨by omega, rfl⟩
    have r3 : Rep.Row (Rep.int .u8) (fun k => g < k) W4 (some ⟨W.heap.size + 1 + 1, 0, none⟩) [99] := ((by rw [← h3, ← s2]; exact ra W2 99 (by decide) : Rep.Row (Rep.int .u8) (fun k => k = W2.heap.size) W3 _ _).below b3).move fun k hk _ => ⟨by omega, rfl⟩
    have r4 : Rep.Row (Rep.int .u8) (fun k => g < k) W4 (some ⟨W.heap.size + 1 + 1 + 1, 0, none⟩) [100] := (by rw [← h4, ← s3]; exact ra W3 100 (by decide) : Rep.Row (Rep.int .u8) (fun k => k = W3.heap.size) W4 _ _).move fun k hk _ => ⟨by omega, rfl⟩
    have key := Rep.row_cells (d := bytesRep) (I := fun k => g < k) (w := W4) 22 (0, 0) [[97], [98], [99], [100]] [.slice (some ⟨W.heap.size, 0, none⟩) 1 1, .slice (some ⟨W.heap.size + 1, 0, none⟩) 1 1, .slice (some ⟨W.heap.size + 1 + 1, 0, none⟩) 1 1, .slice (some ⟨W.heap.size + 1 + 1 + 1, 0, none⟩) 1 1] (by simp [maxLen]) (by
      intro i x hx
      have hi : i < 4 := by have := (List.getElem?_eq_some_iff.1 hx).1; simpa using this
      rcases (by omega : i = 0 ∨ i = 1 ∨ i = 2 ∨ i = 3) with rfl | rfl | rfl | rfl <;> (simp at hx; subst hx)
      · exact ⟨_, Rep.K_slice (c := 1) (by simp) (fun h => by cases h) r1, fun j u hu => by cases j with | zero => simpa [show bytesRep.sz = 1 from rfl] using hu | succ j => simp at hu⟩
      · exact ⟨_, Rep.K_slice (c := 1) (by simp) (fun h => by cases h) r2, fun j u hu => by cases j with | zero => simpa [show bytesRep.sz = 1 from rfl] using hu | succ j => simp at hu⟩
      · exact ⟨_, Rep.K_slice (c := 1) (by simp) (fun h => by cases h) r3, fun j u hu => by cases j with | zero => simpa [show bytesRep.sz = 1 from rfl] using hu | succ j => simp at hu⟩
      · exact ⟨_, Rep.K_slice (c := 1) (by simp) (fun h => by cases h) r4, fun j u hu => by cases j with | zero => simpa [show bytesRep.sz = 1 from rfl] using hu | succ j => simp at hu⟩)
    rw [h1, h2, h3, h4, ← s4]
    exact key.move fun k hk _ => ⟨by rcases hk with hk | hk; exact hk; omega, rfl⟩
  have RL := Hold.mk rl
  have kc : ∀ (w : World) (b : Nat) (C : Array Value) (n c : Nat), b = w.heap.size → (convert 22 22 (.slice (some ⟨b, 0, none⟩) n c)).run Try.prog (w.alloc (.cells C 5)) = .ok (.slice (some ⟨b, 0, none⟩) n c) (w.alloc (.cells C 5 (C.size, C.size + 1))) := fun w b C n c h => by
    subst h; exact Lib.run_convert_bytes_const (P := Try.prog) w 22 5 C n c Try.underlying22 Try.underlying5
  clear ra rl
  go_enter Try.func61, Try.ntmps61
  go_wp2_with fail
  refine (Net.new_yes 3 w.heap.size w (by decide) (by decide) (Nat.le_refl _) (fun k => w.heap.size < k)).mono ?_
  rintro e w1 ⟨rfl, hb1, hn1⟩
  obtain ⟨g, hg⟩ : ∃ g, w.heap.size = g := ⟨_, rfl⟩
  rw [hg] at hb1 hn1 ⊢
  have HB1 := Hold.mk hb1
  have HN1 := Hold.mk hn1
  have HG := Hold.mk hg
  clear hb1 hn1 hg
  go_wp2_with fail
  obtain ⟨w2, hw2⟩ : ∃ X, ((((w1.alloc (.cells #[.int .u8 97] 5 (1, 2))).alloc (.cells #[.int .u8 98] 5 (1, 2))).alloc (.cells #[.int .u8 99] 5 (1, 2))).alloc (.cells #[.int .u8 100] 5 (1, 2))).alloc
      (.cells #[.slice (some ⟨w1.heap.size, 0, none⟩) 1 1, .slice (some ⟨w1.heap.size + 1, 0, none⟩) 1 1, .slice (some ⟨w1.heap.size + 1 + 1, 0, none⟩) 1 1, .slice (some ⟨w1.heap.size + 1 + 1 + 1, 0, none⟩) 1 1] 22) = X := ⟨_, rfl⟩
  have hr2 := RL.out w1 g HN1.out.lt
  rw [hw2] at hr2 ⊢
  have hb2 : Below w1.heap.size w1 w2 := by
    rw [← hw2]; exact (((((Below.refl _ _).alloc (Nat.le_refl _) _).alloc (by simp) _).alloc (by simp; omega) _).alloc (by simp; omega) _).alloc (by simp; omega) _
  have HN2 := Hold.mk (HN1.out.below hb2)
  have HB2 := Hold.mk (HB1.out.trans (hb2.mono (Nat.le_of_lt HN1.out.lt)))
  have HR2 := Hold.mk hr2
  clear hb2 hr2 hw2
  refine (Net.send_calls g g (fun k => g < k) w2 (.slice none 0 0) 3 0 [] HN2.out (some ⟨w1.heap.size + 1 + 1 + 1 + 1, 0, none⟩) 4 [[97], [98], [99], [100]] (fun k => g < k) HR2.out (by simp) (by rintro k hk _ (e | e); (have hk : g < k := hk; omega); cases e) (by decide) (by decide) (fun k hk => by have := HN2.out.lt; show g < k; omega) (by decide) (by decide) (by have := HN2.out.lt; omega)).mono ?_
  rintro e w3 ⟨rfl, hf3, hs3⟩
  have hfit : fits 3 (([[97], [98], [99], [100]] : List (List Int)).length : Int) (([] : List (List Int)).length : Int) = 3 := by decide
  rw [hfit] at hs3 ⊢
  obtain ⟨v3, hn3, _⟩ := hs3
  have HN3 : Hold (NetAt g g (fun k => g < k) w3 v3 3 1 [[97], [98], [99]]) := ⟨hn3⟩
  have HB3 := Hold.mk (HB2.out.trans (fr_below HN2.out hf3))
  clear hf3 hfit hn3
  go_wp2_with fail
  refine (Net.take_yes g g (fun k => g < k) w3 v3 3 1 [[97], [98], [99]] HN3.out 1 (by decide) [98] rfl).mono ?_
  rintro e w4 ⟨A4, c4, rfl, _, hf4, ho4, v4, hn4, hv4⟩
  have HN4 : Hold (NetAt g g (fun k => g < k) w4 v4 3 1 [[97], [99]]) := ⟨hn4⟩
  have HB4 := Hold.mk (HB3.out.trans (fr_below HN3.out hf4))
  have HO4 := Hold.mk ho4
  have HV4 : Hold (∀ k, v4.ownBlock = some k → k < w3.heap.size) := ⟨fun k hk => by rw [hv4] at hk; exact (HN3.out.own.block_lt k hk).2⟩
  have HS4 := Hold.mk hf4.size
  clear hf4 ho4 hn4 hv4
  go_wp2_with fail
  refine (Net.double_yes g g (fun k => g < k) w4 v4 3 1 [[97], [99]] HN4.out 0 (by decide) (by decide) [97] rfl (fun k hk => by have := HN4.out.lt; show g < k; omega)).mono ?_
  rintro e w5 ⟨rfl, hf5, v5, hn5, _⟩
  have HN5 : Hold (NetAt g g (fun k => g < k) w5 v5 3 1 [[97], [99], [97]]) := ⟨hn5⟩
  have HB5 := Hold.mk (HB4.out.trans (fr_below HN4.out hf5))
  have HO5 := Hold.mk (own_stays HN4.out hf5 HO4.out HN3.out.lt HV4.out)
  clear hf5 hn5
  go_wp2_with fail
  refine (Net.at_yes g g (fun k => g < k) w5 v5 3 1 [[97], [99], [97]] HN5.out 2 (by decide) [97] rfl).mono ?_
  rintro e w6 ⟨A6, c6, rfl, _, ho6, hb6⟩
  have HN6 := Hold.mk (HN5.out.below hb6)
  have HB6 := Hold.mk (HB5.out.trans (hb6.mono (Nat.le_of_lt HN5.out.lt)))
  have q4 := Rep.row_string (P := Try.prog) (A := A4) (c := c4) Try.underlying22 Try.underlying5 Try.underlying9 (HO5.out.below hb6).row
  have q6 := Rep.row_string (P := Try.prog) (A := A6) (c := c6) Try.underlying22 Try.underlying5 Try.underlying9 ho6.row
  have s4 : strOfNums [98] = { data := #[98] } := rfl
  have s6 : strOfNums [97] = { data := #[97] } := rfl
  rw [s4] at q4
  rw [s6] at q6
  replace q4 : (convert 22 9 (.slice A4 1 c4)).run Try.prog w6 = .ok (.string { data := #[98] }) w6 := q4
  replace q6 : (convert 22 9 (.slice A6 1 c6)).run Try.prog w6 = .ok (.string { data := #[97] }) w6 := q6
  clear hb6 ho6 s4 s6
  go_wp2_with (first
    | (go_at_call 66; refine (Net.lost_calls g g (fun k => g < k) w6 v5 3 1 [[97], [99], [97]] HN6.out).mono ?_; rintro e w7 ⟨rfl, rfl⟩)
    | (go_at_call 67; refine (Net.len_calls g g (fun k => g < k) w6 v5 3 1 [[97], [99], [97]] HN6.out).mono ?_; rintro e w7 ⟨rfl, rfl⟩)
    | (go_at_call 70; refine (Net.double_full g g (fun k => g < k) w6 v5 3 1 [[97], [99], [97]] HN6.out 0 (by decide) (by decide)).mono ?_; rintro e w7 ⟨rfl, hb7⟩; have HB7 := Hold.mk hb7; clear hb7))
  go_ret
  rw [HG.out]
  exact ⟨rfl, HB6.out.trans (HB7.out.mono (Nat.le_of_lt HN6.out.lt))⟩
end Go.Proofs.Ytgeeicpjphdolaa.NetLaw
