/- lictorlaw08.alive by its walk; no condition. -/
import Derived.Test.YtgeeicpjphdolaaDiskStep
import Derived.Lib.SlBytesConst
namespace Go.Proofs.Ytgeeicpjphdolaa.DiskLaw
open Go.RowKit Go.Proofs.Ytgeeicpjphdolaa.B
open Go.Proofs.Ytgeeicpjphdolaa.Disk (DiskAt crashN mine)

theorem fr_below {base g : Nat} {w w' : World} {v : Value} {room synced : Int} {bs : List Int} (h : DiskAt base g w v room synced bs) (hf : Fr (mine g v) w w') : Below base w w' :=
  have hs : base ≤ w.heap.size := Nat.le_of_lt (Nat.lt_of_le_of_lt h.ge h.lt)
  ⟨hf.os, hf.tape, hf.output, hf.size, fun k hk => hf.block k (Nat.lt_of_lt_of_le hk hs) (by
    rintro (e | e)
    · have := h.ge; omega
    · have := h.own.block_lt k e; omega)⟩

theorem append_at (base g : Nat) (w : World) (v : Value) (room synced : Int) (bs : List Int) (h : DiskAt base g w v room synced bs) (A : Option Addr) (n c : Nat) (b L : List Int) (I : Nat → Prop) (hlen : n = b.length) (hn : (b.length : Int) ≤ room - bs.length) (hr : Rep.Row (Rep.int .u8) I w A b) (hnil : A = none → c = 0) (hI : ∀ k, I k → k < w.heap.size → some k ≠ v.ownBlock) (hL : bs ++ b = L) :
    Calls Try.prog 33 #[.pointer (some ⟨g, 0, none⟩), .slice A n c] w fun e w' => ∃ v', e = .returned (.int .i64 0) ∧ DiskAt base g w' v' room synced L ∧ Below base w w' := by
  subst hlen; subst hL
  refine (Disk.append_room base g w v room synced bs h A c b I hn hr hnil hI (Nat.le_of_lt (Nat.lt_of_le_of_lt h.ge h.lt))).mono ?_
  rintro e w' ⟨v', he, hd, hf, _⟩
  exact ⟨v', he, hd, fr_below h hf⟩

set_option maxRecDepth 100000 in
set_option maxHeartbeats 4000000 in
theorem alive_calls (w : World) : Calls Try.prog 24 #[] w fun e w' => e = .returned (.bool true) ∧ Below w.heap.size w w' := by
  have kc := fun (w : World) (C : Array Value) (n c : Nat) => Lib.run_convert_bytes_const (P := Try.prog) w 22 5 C n c Try.underlying22 Try.underlying5
  have ra : ∀ W : World, Rep.Row (Rep.int .u8) (fun b => b = W.heap.size) (W.alloc (.cells #[.int .u8 97, .int .u8 98, .int .u8 99] 5 (3, 4))) (some ⟨W.heap.size, 0, none⟩) [97, 98, 99] := fun W =>
    Rep.row_lit W 5 (3, 4) [97, 98, 99] (by simp [maxLen]) (by decide)
  have rd : ∀ W : World, Rep.Row (Rep.int .u8) (fun b => b = W.heap.size) (W.alloc (.cells #[.int .u8 100, .int .u8 101, .int .u8 102, .int .u8 103] 5 (4, 5))) (some ⟨W.heap.size, 0, none⟩) [100, 101, 102, 103] := fun W =>
    Rep.row_lit W 5 (4, 5) [100, 101, 102, 103] (by simp [maxLen]) (by decide)
  have RA := Hold.mk ra
  have RD := Hold.mk rd
  clear ra rd
  go_enter Try.func24, Try.ntmps24
  go_wp2_with fail
  refine (Disk.new_yes 10 w.heap.size w (by decide) (by decide) (Nat.le_refl _)).mono ?_
  rintro e w1 ⟨rfl, hb1, hd1⟩
  obtain ⟨g, hg⟩ : ∃ g, w.heap.size = g := ⟨_, rfl⟩
  rw [hg] at hb1 hd1 ⊢
  have HB1 := Hold.mk hb1
  have HD1 := Hold.mk hd1
  have HG := Hold.mk hg
  clear hb1 hd1 hg
  go_wp2_with fail
  refine (append_at g g _ _ 10 0 [] (HD1.out.below ((Below.refl _ _).alloc (Nat.le_refl _) _)) (some ⟨w1.heap.size, 0, none⟩) 3 _ [97, 98, 99] [97, 98, 99] (fun b => b = w1.heap.size) rfl (by decide) (RA.out w1) (by simp) (by intro k _ _ e; cases e) rfl).mono ?_
  rintro e w2 ⟨v2, rfl, hd2, hb2⟩
  have HB2 := Hold.mk ((HB1.out.alloc (by have := HD1.out.lt; omega) _).trans hb2)
  have HD2 := Hold.mk hd2
  clear hd2 hb2
  go_wp2_with fail
  refine (Disk.sync_calls g g w2 v2 10 0 [97, 98, 99] HD2.out).mono ?_
  rintro e w3 ⟨rfl, hd3, hf3⟩
  have HB3 := Hold.mk (HB2.out.trans (fr_below HD2.out hf3))
  have HD3 := Hold.mk hd3
  clear hd3 hf3
  go_wp2_with fail
  refine (append_at g g _ v2 10 3 [97, 98, 99] (HD3.out.below ((Below.refl _ _).alloc (Nat.le_refl _) _)) (some ⟨w3.heap.size, 0, none⟩) 4 _ [100, 101, 102, 103] [97, 98, 99, 100, 101, 102, 103] (fun b => b = w3.heap.size) rfl (by decide) (RD.out w3) (by simp) (by intro k hk _ e; have := HD3.out.own.block_lt k e.symm; omega) rfl).mono ?_
  rintro e w4 ⟨v4, rfl, hd4, hb4⟩
  have HB4 := Hold.mk ((HB3.out.alloc (by have := HD3.out.lt; omega) _).trans hb4)
  have HD4 := Hold.mk hd4
  clear hd4 hb4
  go_wp2_with fail
  refine (Disk.append_full g g _ v4 10 3 [97, 98, 99, 100, 101, 102, 103] (HD4.out.below ((Below.refl _ _).alloc (Nat.le_refl _) _)) _ _ _ (by decide)).mono ?_
  rintro e w5 ⟨rfl, k5, hw5⟩
  have hd5 : DiskAt g g w5 v4 10 3 [97, 98, 99, 100, 101, 102, 103] := by rw [hw5]; exact (HD4.out.below ((Below.refl _ _).alloc (Nat.le_refl _) _)).keep rfl (fun _ _ => rfl)
  have hb5 : Below g w w5 := by rw [hw5]; exact (HB4.out.alloc (by have := HD4.out.lt; omega) _).trans ((below_drewN _ k5).mono (by have := HD4.out.lt; simp; omega))
  have HB5 := Hold.mk hb5
  have HD5 := Hold.mk hd5
  clear hd5 hb5 hw5
  go_wp2_with fail
  refine (Disk.crash_calls g g w5 v4 10 3 [97, 98, 99, 100, 101, 102, 103] HD5.out 2 (by have := HD5.out.lt; omega)).mono ?_
  rintro e w6 ⟨v6, rfl, hd6, hf6, _⟩
  have HB6 := Hold.mk (HB5.out.trans (fr_below HD5.out hf6))
  have hcn : crashN 3 (([97, 98, 99, 100, 101, 102, 103] : List Int).length : Int) 2 = 5 := by decide
  rw [hcn] at hd6
  have hd6' : DiskAt g g w6 v6 10 5 [97, 98, 99, 100, 101] := hd6
  have HD6 := Hold.mk hd6'
  clear hd6 hf6 hcn hd6'
  go_wp2_with fail
  refine (Disk.bytes_calls g g w6 v6 10 5 [97, 98, 99, 100, 101] HD6.out).mono ?_
  rintro e w7 ⟨A7, c7, rfl, hn7, ho7, hb7⟩
  have q7 := Rep.row_string (P := Try.prog) (A := A7) (c := c7) Try.underlying22 Try.underlying5 Try.underlying9 ho7.row
  have hs7 : strOfNums [97, 98, 99, 100, 101] = { data := #[97, 98, 99, 100, 101] } := rfl
  rw [hs7] at q7
  replace q7 : (convert 22 9 (.slice A7 5 c7)).run Try.prog w7 = .ok (.string { data := #[97, 98, 99, 100, 101] }) w7 := q7
  have HD7 := Hold.mk (HD6.out.below hb7)
  have HB7 := Hold.mk (HB6.out.trans (hb7.mono (by have := HD6.out.lt; omega)))
  clear hs7 ho7 hb7 hn7
  go_wp2_with fail
  refine (Disk.synced_calls g g w7 v6 10 5 [97, 98, 99, 100, 101] HD7.out).mono ?_
  rintro e w8 ⟨rfl, rfl⟩
  go_wp2_with fail
  refine (Disk.left_calls g g w7 v6 10 5 [97, 98, 99, 100, 101] HD7.out).mono ?_
  rintro e w8 ⟨rfl, k8, rfl⟩
  go_wp2
  go_ret
  rw [HG.out]
  exact ⟨by rfl, HB7.out.trans ((below_drewN w7 k8).mono (by have := HD7.out.lt; omega))⟩
end Go.Proofs.Ytgeeicpjphdolaa.DiskLaw
