/- lictorlaw08.step by its walk: two disks, the program's and the document's, that stand alike, stand alike behind any act. -/
import Derived.Test.YtgeeicpjphdolaaDiskFits
import Derived.Deep.CutBlock
import Derived.Deep.RegionHeldLaw
namespace Go.Proofs.Ytgeeicpjphdolaa.DiskLaw
open Go.RowKit Go.Proofs.Ytgeeicpjphdolaa.B
open Go.Proofs.Ytgeeicpjphdolaa.Disk (DiskAt crashN mine)
open Go.Proofs.Ytgeeicpjphdolaa.RefDisk (RefAt)

/-- The program's disk, and the document's, alike, apart from each other, from block 'base' on. -/
structure Two (base g m : Nat) (w : World) (v u : Value) (room synced : Int) (bs : List Int) : Prop where
  d : DiskAt base g w v room synced bs
  r : RefAt (fun k => base ≤ k ∧ k ≠ g ∧ k ≠ m ∧ some k ≠ v.ownBlock) m w u room synced bs
  gm : m ≠ g
  mv : v.ownBlock ≠ some m
  bm : base ≤ m

section
variable {base g m : Nat} {w w' : World} {v u v' u' : Value} {room synced s' : Int} {bs b' : List Int}
theorem Two.below (h : Two base g m w v u room synced bs) (hb : Below w.heap.size w w') : Two base g m w' v u room synced bs :=
  ⟨h.d.below hb, h.r.below hb, h.gm, h.mv, h.bm⟩
theorem Two.size (h : Two base g m w v u room synced bs) : base ≤ w.heap.size := Nat.le_of_lt (Nat.lt_of_le_of_lt h.bm h.r.lt)
/-- The program's disk has turned, then the document's. -/
theorem Two.turn (h : Two base g m w v u room synced bs) (_hd : DiskAt base g w' v' room s' b') (hf : Fr (mine g v) w w') (hv : v'.ownBlock = v.ownBlock ∨ ∃ k, v'.ownBlock = some k ∧ w.heap.size ≤ k) :
    RefAt (fun k => base ≤ k ∧ k ≠ g ∧ k ≠ m ∧ some k ≠ v.ownBlock ∧ some k ≠ v'.ownBlock) m w' u room synced bs ∧ v'.ownBlock ≠ some m := by
  refine ⟨h.r.keep (hf.block m h.r.lt ?_) (fun k hk hlt => ⟨⟨hk.1, hk.2.1, hk.2.2.1, hk.2.2.2, ?_⟩, hf.block k hlt ?_⟩), ?_⟩
  · rintro (e | e)
    · exact h.gm e
    · exact h.mv e
  · rcases hv with e | ⟨j, e, hj⟩
    · rw [e]; exact hk.2.2.2
    · rw [e]; intro e2; injection e2 with e2; omega
  · rintro (e | e)
    · exact hk.2.1 e
    · exact hk.2.2.2 e.symm
  · rcases hv with e | ⟨j, e, hj⟩
    · rw [e]; exact h.mv
    · rw [e]; intro e2; injection e2 with e2; have := h.r.lt; omega
/-- Then the document's: its own block alone, and what is new. -/
theorem Two.make {w1 w2 : World} {K : Nat → Prop} (hd : DiskAt base g w1 v' room s' b') (hgm : m ≠ g) (hmv : v'.ownBlock ≠ some m) (hbm : base ≤ m) (hr : RefAt K m w2 u' room s' b') (hf : Fr (fun k => k = m) w1 w2)
    (hK : ∀ k, K k → base ≤ k ∧ k ≠ g ∧ k ≠ m ∧ some k ≠ v'.ownBlock) : Two base g m w2 v' u' room s' b' := by
  refine ⟨hd.keep (hf.block g hd.lt (fun e => hgm e.symm)) (fun k hk => hf.block k (hd.own.block_lt k hk).2 (fun e => hmv (by rw [hk, e]))), hr.keep rfl (fun k hk _ => ⟨hK k hk, rfl⟩), hgm, hmv, hbm⟩
end
/-- What may have turned. -/
def ours (g m : Nat) (v : Value) : Nat → Prop := fun k => k = m ∨ mine g v k
theorem ours_ge {base g m : Nat} {w : World} {v u : Value} {room synced : Int} {bs : List Int} (h : Two base g m w v u room synced bs) {k : Nat} (hk : ours g m v k) : base ≤ k ∧ k < w.heap.size := by
  rcases hk with rfl | rfl | hk
  · exact ⟨h.bm, h.r.lt⟩
  · exact ⟨h.d.ge, h.d.lt⟩
  · exact h.d.own.block_lt k hk
/-- What a step leaves. -/
def Stepped (base g m : Nat) (w : World) (v : Value) (room : Int) (e : Ending) (w' : World) : Prop :=
  e = .returned (.bool true) ∧ Fr (ours g m v) w w' ∧ ∃ v' u' s' b', Two base g m w' v' u' room s' b'

/-- Both answer alike. -/
def Same (a b : Value) : Prop := ∃ x : Int, a = .int .i64 x ∧ b = .int .i64 x
/-- The two disks behind an act. -/
def Mid (base g m : Nat) (w : World) (v : Value) (room : Int) (w3 : World) : Prop := ∃ v3 u3 s3 b3, Two base g m w3 v3 u3 room s3 b3 ∧ Fr (ours g m v) w w3
set_option maxHeartbeats 4000000 in
set_option maxRecDepth 100000 in
theorem step_calls (base g m : Nat) (w : World) (v u : Value) (room synced : Int) (bs : List Int) (h : Two base g m w v u room synced bs) (k n : Int) (A1 : Option Addr) (c1 : Nat) (b : List Int) (hk : (Lit.int .u8 k).wf = true) (hrow : Rep.Row (Rep.int .u8) (fun k => k < base) w A1 b) (hnil : A1 = none → c1 = 0) :
    Calls Try.prog 26 #[.pointer (some ⟨g, 0, none⟩), .pointer (some ⟨m, 0, none⟩), .agg #[.int .u8 k, .slice A1 b.length c1, .int .i64 n]] w (Stepped base g m w v room) := by
  obtain ⟨w0, hw0⟩ : ∃ W, w.alloc (.cells #[.int .u8 k, .slice A1 b.length c1, .int .i64 n] 46) = W := ⟨_, rfl⟩
  have hb0 : Below w.heap.size w w0 := by rw [← hw0]; exact (Below.refl _ _).alloc (Nat.le_refl _) _
  have h0 := h.below hb0
  have hr0 := hrow.below hb0
  have hblk : w0.heap[w.heap.size]? = some (.cells #[.int .u8 k, .slice A1 b.length c1, .int .i64 n] 46 (0, 0)) := by
    rw [← hw0]; show (w.heap.push _)[w.heap.size]? = _; simp
  have a0 : w0.cell? ⟨w.heap.size, 0, none⟩ = some (.int .u8 k) := by simp [World.cell?, hblk]
  have a1 : w0.cell? ⟨w.heap.size, 1, none⟩ = some (.slice A1 b.length c1) := by simp [World.cell?, hblk]
  have a2 : w0.cell? ⟨w.heap.size, 2, none⟩ = some (.int .i64 n) := by simp [World.cell?, hblk]
  have kw := bounds_u8 hk
  obtain ⟨k0, k1⟩ := kw
  have HK := Hold.mk hk
  have H0 := Hold.mk h0
  have HR0 := Hold.mk hr0
  have HNil := Hold.mk hnil
  have HB0 := Hold.mk hb0
  have HBlk := Hold.mk hblk
  have HSz := Hold.mk h.size
  have HLt := Hold.mk (And.intro h.d.lt (fun k hk => (h.d.own.block_lt k hk).2))
  clear hk h0 hr0 hnil hb0 hblk h hrow
  have k5 : k % 5 = 0 ∨ k % 5 = 1 ∨ k % 5 = 2 ∨ k % 5 = 3 ∨ k % 5 = 4 := by omega
  have hTail : True := trivial
  go_enter Try.func26, Try.ntmps26
  go_upto_block 0 with (fail)
  go_cut [7, 8] from 9 to 52 (fun s7 s8 wc => Same s7 s8 ∧ Mid base g m w v room wc)
  case first =>
    rcases k5 with e5 | e5 | e5 | e5 | e5
    · by_cases hf : room - bs.length < (b.length : Int)
      · have HFull := Hold.mk hf
        clear hf
        go_wp2_with fail
        refine (Disk.append_full base g w0 v room synced bs H0.out.d A1 c1 b.length HFull.out).mono ?_
        rintro e w1 ⟨rfl, k1, rfl⟩
        go_wp2_with fail
        refine (RefDisk.append_full _ m (w0.drewN k1) u room synced bs (H0.out.r.keep rfl (fun _ hi _ => ⟨hi, rfl⟩)) A1 c1 b.length HFull.out).mono ?_
        rintro e w2 ⟨rfl, k2, rfl⟩
        obtain ⟨w3, hw3⟩ : ∃ W, (w0.drewN k1).drewN k2 = W := ⟨_, rfl⟩
        obtain ⟨v3, hv3⟩ : ∃ V, v = V := ⟨_, rfl⟩
        obtain ⟨u3, hu3⟩ : ∃ V, u = V := ⟨_, rfl⟩
        obtain ⟨s3, hs3⟩ : ∃ V, synced = V := ⟨_, rfl⟩
        obtain ⟨b3, hb3⟩ : ∃ V, bs = V := ⟨_, rfl⟩
        have hT : Two base g m w3 v3 u3 room s3 b3 := by subst hw3; subst hv3; subst hu3; subst hs3; subst hb3; exact H0.out.below (((below_drewN w0 k1).trans (below_drewN (w0.drewN k1) k2)))
        have hF : Fr (ours g m v) w w3 := by subst hw3; exact ((Fr.of_below _ HB0.out).drewN k1).drewN k2
        rw [hw3]
        clear hw3 hv3 hu3 hs3 hb3
        try go_wp2_with fail
        go_meet
        case rel => exact ⟨⟨_, rfl, rfl⟩, _, _, _, _, hT, hF⟩
      · have HRoom : Hold ((b.length : Int) ≤ room - bs.length) := ⟨by omega⟩
        clear hf
        go_wp2_with fail
        refine (Disk.append_room base g w0 v room synced bs H0.out.d A1 c1 b (fun k => k < base) HRoom.out HR0.out HNil.out (fun k hk _ e => by have := H0.out.d.own.block_lt k e.symm; omega) H0.out.size).mono ?_
        rintro e w1 ⟨v3, rfl, hd1, hf1, hv1⟩
        have hrb : Rep.Row (Rep.int .u8) (fun k => k < base) w1 A1 b := HR0.out.move fun k hk hlt => ⟨hk, hf1.block k hlt (by
          rintro (e | e)
          · have := H0.out.d.ge; have hk : k < base := hk; omega
          · have := H0.out.d.own.block_lt k e; have hk : k < base := hk; omega)⟩
        have HRb := Hold.mk hrb
        clear hrb
        have hTu := H0.out.turn hd1 hf1 hv1
        have hblk1 : w1.heap[w.heap.size]? = some (.cells #[.int .u8 k, .slice A1 b.length c1, .int .i64 n] 46 (0, 0)) :=
          (hf1.block _ (Array.getElem?_eq_some_iff.1 HBlk.out).1 (by
            rintro (e | e)
            · have := HLt.out.1; omega
            · have := HLt.out.2 _ e; omega)).trans HBlk.out
        have b0 : w1.cell? ⟨w.heap.size, 0, none⟩ = some (.int .u8 k) := by simp [World.cell?, hblk1]
        have b1 : w1.cell? ⟨w.heap.size, 1, none⟩ = some (.slice A1 b.length c1) := by simp [World.cell?, hblk1]
        have b2 : w1.cell? ⟨w.heap.size, 2, none⟩ = some (.int .i64 n) := by simp [World.cell?, hblk1]
        have HD1 := Hold.mk hd1
        have HF1 := Hold.mk hf1
        have HTu := Hold.mk hTu
        clear hd1 hf1 hv1 hTu hblk1
        go_wp2_with fail
        refine (RefDisk.append_room _ m w1 u room synced bs HTu.out.1 A1 c1 b (fun k => k < base) HRoom.out HRb.out HNil.out).mono ?_
        rintro e w3 ⟨u3, rfl, hr2, hf2⟩
        have hKK : ∀ k, w1.heap.size ≤ k → base ≤ k ∧ k ≠ g ∧ k ≠ m ∧ some k ≠ v3.ownBlock := by
          intro k hk
          have hg1 := HD1.out.lt
          have hm1 := HTu.out.1.lt
          have := H0.out.bm
          refine ⟨by omega, by omega, by omega, fun e => ?_⟩
          have := HD1.out.own.block_lt k e.symm
          omega
        obtain ⟨s3, hs3⟩ : ∃ V, synced = V := ⟨_, rfl⟩
        obtain ⟨b3, hb3⟩ : ∃ V, bs ++ b = V := ⟨_, rfl⟩
        have hT := Two.make HD1.out H0.out.gm HTu.out.2 H0.out.bm hr2 hf2 (hKK)
        have hF : Fr (ours g m v) w w3 := ((Fr.of_below _ HB0.out).trans HF1.out (fun _ _ h => .inr h)).trans hf2 (fun _ _ e => .inl e)
        clear hr2 hf2
        rw [hb3, hs3] at hT
        clear hs3 hb3 hKK b0 b1 b2
        try go_wp2_with fail
        go_meet
        case rel => exact ⟨⟨_, rfl, rfl⟩, _, _, _, _, hT, hF⟩
    · by_cases hf : room - bs.length < (b.length : Int)
      · have HFull := Hold.mk hf
        clear hf
        go_wp2_with fail
        refine (Disk.append_full base g w0 v room synced bs H0.out.d A1 c1 b.length HFull.out).mono ?_
        rintro e w1 ⟨rfl, k1, rfl⟩
        go_wp2_with fail
        refine (RefDisk.append_full _ m (w0.drewN k1) u room synced bs (H0.out.r.keep rfl (fun _ hi _ => ⟨hi, rfl⟩)) A1 c1 b.length HFull.out).mono ?_
        rintro e w2 ⟨rfl, k2, rfl⟩
        obtain ⟨w3, hw3⟩ : ∃ W, (w0.drewN k1).drewN k2 = W := ⟨_, rfl⟩
        obtain ⟨v3, hv3⟩ : ∃ V, v = V := ⟨_, rfl⟩
        obtain ⟨u3, hu3⟩ : ∃ V, u = V := ⟨_, rfl⟩
        obtain ⟨s3, hs3⟩ : ∃ V, synced = V := ⟨_, rfl⟩
        obtain ⟨b3, hb3⟩ : ∃ V, bs = V := ⟨_, rfl⟩
        have hT : Two base g m w3 v3 u3 room s3 b3 := by subst hw3; subst hv3; subst hu3; subst hs3; subst hb3; exact H0.out.below (((below_drewN w0 k1).trans (below_drewN (w0.drewN k1) k2)))
        have hF : Fr (ours g m v) w w3 := by subst hw3; exact ((Fr.of_below _ HB0.out).drewN k1).drewN k2
        rw [hw3]
        clear hw3 hv3 hu3 hs3 hb3
        try go_wp2_with fail
        go_meet
        case rel => exact ⟨⟨_, rfl, rfl⟩, _, _, _, _, hT, hF⟩
      · have HRoom : Hold ((b.length : Int) ≤ room - bs.length) := ⟨by omega⟩
        clear hf
        go_wp2_with fail
        refine (Disk.append_room base g w0 v room synced bs H0.out.d A1 c1 b (fun k => k < base) HRoom.out HR0.out HNil.out (fun k hk _ e => by have := H0.out.d.own.block_lt k e.symm; omega) H0.out.size).mono ?_
        rintro e w1 ⟨v3, rfl, hd1, hf1, hv1⟩
        have hrb : Rep.Row (Rep.int .u8) (fun k => k < base) w1 A1 b := HR0.out.move fun k hk hlt => ⟨hk, hf1.block k hlt (by
          rintro (e | e)
          · have := H0.out.d.ge; have hk : k < base := hk; omega
          · have := H0.out.d.own.block_lt k e; have hk : k < base := hk; omega)⟩
        have HRb := Hold.mk hrb
        clear hrb
        have hTu := H0.out.turn hd1 hf1 hv1
        have hblk1 : w1.heap[w.heap.size]? = some (.cells #[.int .u8 k, .slice A1 b.length c1, .int .i64 n] 46 (0, 0)) :=
          (hf1.block _ (Array.getElem?_eq_some_iff.1 HBlk.out).1 (by
            rintro (e | e)
            · have := HLt.out.1; omega
            · have := HLt.out.2 _ e; omega)).trans HBlk.out
        have b0 : w1.cell? ⟨w.heap.size, 0, none⟩ = some (.int .u8 k) := by simp [World.cell?, hblk1]
        have b1 : w1.cell? ⟨w.heap.size, 1, none⟩ = some (.slice A1 b.length c1) := by simp [World.cell?, hblk1]
        have b2 : w1.cell? ⟨w.heap.size, 2, none⟩ = some (.int .i64 n) := by simp [World.cell?, hblk1]
        have HD1 := Hold.mk hd1
        have HF1 := Hold.mk hf1
        have HTu := Hold.mk hTu
        clear hd1 hf1 hv1 hTu hblk1
        go_wp2_with fail
        refine (RefDisk.append_room _ m w1 u room synced bs HTu.out.1 A1 c1 b (fun k => k < base) HRoom.out HRb.out HNil.out).mono ?_
        rintro e w3 ⟨u3, rfl, hr2, hf2⟩
        have hKK : ∀ k, w1.heap.size ≤ k → base ≤ k ∧ k ≠ g ∧ k ≠ m ∧ some k ≠ v3.ownBlock := by
          intro k hk
          have hg1 := HD1.out.lt
          have hm1 := HTu.out.1.lt
          have := H0.out.bm
          refine ⟨by omega, by omega, by omega, fun e => ?_⟩
          have := HD1.out.own.block_lt k e.symm
          omega
        obtain ⟨s3, hs3⟩ : ∃ V, synced = V := ⟨_, rfl⟩
        obtain ⟨b3, hb3⟩ : ∃ V, bs ++ b = V := ⟨_, rfl⟩
        have hT := Two.make HD1.out H0.out.gm HTu.out.2 H0.out.bm hr2 hf2 (hKK)
        have hF : Fr (ours g m v) w w3 := ((Fr.of_below _ HB0.out).trans HF1.out (fun _ _ h => .inr h)).trans hf2 (fun _ _ e => .inl e)
        clear hr2 hf2
        rw [hb3, hs3] at hT
        clear hs3 hb3 hKK b0 b1 b2
        try go_wp2_with fail
        go_meet
        case rel => exact ⟨⟨_, rfl, rfl⟩, _, _, _, _, hT, hF⟩
    · go_wp2_with fail
      refine (Disk.sync_calls base g w0 v room synced bs H0.out.d).mono ?_
      rintro e w1 ⟨rfl, hd1, hf1⟩
      have hv1 : v.ownBlock = v.ownBlock ∨ ∃ k, v.ownBlock = some k ∧ w0.heap.size ≤ k := .inl rfl
      have hTu := H0.out.turn hd1 hf1 hv1
      have hblk1 : w1.heap[w.heap.size]? = some (.cells #[.int .u8 k, .slice A1 b.length c1, .int .i64 n] 46 (0, 0)) :=
        (hf1.block _ (Array.getElem?_eq_some_iff.1 HBlk.out).1 (by
          rintro (e | e)
          · have := HLt.out.1; omega
          · have := HLt.out.2 _ e; omega)).trans HBlk.out
      have b0 : w1.cell? ⟨w.heap.size, 0, none⟩ = some (.int .u8 k) := by simp [World.cell?, hblk1]
      have b1 : w1.cell? ⟨w.heap.size, 1, none⟩ = some (.slice A1 b.length c1) := by simp [World.cell?, hblk1]
      have b2 : w1.cell? ⟨w.heap.size, 2, none⟩ = some (.int .i64 n) := by simp [World.cell?, hblk1]
      have HD1 := Hold.mk hd1
      have HF1 := Hold.mk hf1
      have HTu := Hold.mk hTu
      clear hd1 hf1 hv1 hTu hblk1
      obtain ⟨Au, cu, hu, hnu, hcu, hru⟩ := HTu.out.1.row
      have mc1 : w1.cell? ⟨m, 1, none⟩ = some (.slice Au bs.length cu) := by rw [HTu.out.1.c1, hu]
      have mc2 := HTu.out.1.c2
      have mf2 := HTu.out.1.free 2
      have HU := Hold.mk (And.intro hu (And.intro hnu (And.intro hcu hru)))
      clear hu hnu hcu hru
      go_wp2_with fail
      obtain ⟨w3, hw3⟩ : ∃ W, w1.setCell ⟨m, 2, none⟩ (.int .i64 (bs.length : Int)) = W := ⟨_, rfl⟩
      have hr2 : RefAt (fun k => base ≤ k ∧ k ≠ g ∧ k ≠ m ∧ some k ≠ v.ownBlock) m w3 u room bs.length bs := by
        subst hw3
        refine ⟨Disk.blk_set _ _ 2 _ HTu.out.1.block, ⟨Au, cu, HU.out.1, HU.out.2.1, HU.out.2.2.1, HU.out.2.2.2.move fun k hk _ => ⟨⟨hk.1, hk.2.1, hk.2.2.1, hk.2.2.2.1⟩, Below.heap_setCell _ _ _ _ hk.2.2.1⟩⟩, ?_⟩
        have := HTu.out.1.ok; omega
      have hf2 : Fr (fun k => k = m) w1 w3 := by subst hw3; exact (Fr.refl (fun k => k = m) w1).setCell (p := ⟨m, 2, none⟩) (.inl rfl) _
      obtain ⟨v3, hv3⟩ : ∃ V, v = V := ⟨_, rfl⟩
      obtain ⟨u3, hu3⟩ : ∃ V, u = V := ⟨_, rfl⟩
      obtain ⟨s3, hs3⟩ : ∃ V : Int, (bs.length : Int) = V := ⟨_, rfl⟩
      obtain ⟨b3, hb3⟩ : ∃ V, bs = V := ⟨_, rfl⟩
      have hT := Two.make HD1.out H0.out.gm HTu.out.2 H0.out.bm hr2 hf2 (fun k hk => hk)
      have hF : Fr (ours g m v) w w3 := ((Fr.of_below _ HB0.out).trans HF1.out (fun _ _ h => .inr h)).trans hf2 (fun _ _ e => .inl e)
      clear hr2 hf2
      rw [hs3] at hT
      rw [hw3]
      subst hv3; subst hu3; subst hb3
      clear hw3 hs3 mc1 mc2 mf2 b0 b1 b2
      try go_wp2_with fail
      go_meet
      case rel => exact ⟨⟨_, rfl, rfl⟩, _, _, _, _, hT, hF⟩
    · go_wp2_with fail
      refine (Disk.crash_calls base g w0 v room synced bs H0.out.d n H0.out.size).mono ?_
      rintro e w1 ⟨v3, rfl, hd1, hf1, hv0⟩
      have hv1 : v3.ownBlock = v.ownBlock ∨ ∃ k, v3.ownBlock = some k ∧ w0.heap.size ≤ k := .inr ⟨_, hv0, Nat.le_refl _⟩
      clear hv0
      have hTu := H0.out.turn hd1 hf1 hv1
      have hblk1 : w1.heap[w.heap.size]? = some (.cells #[.int .u8 k, .slice A1 b.length c1, .int .i64 n] 46 (0, 0)) :=
        (hf1.block _ (Array.getElem?_eq_some_iff.1 HBlk.out).1 (by
          rintro (e | e)
          · have := HLt.out.1; omega
          · have := HLt.out.2 _ e; omega)).trans HBlk.out
      have b0 : w1.cell? ⟨w.heap.size, 0, none⟩ = some (.int .u8 k) := by simp [World.cell?, hblk1]
      have b1 : w1.cell? ⟨w.heap.size, 1, none⟩ = some (.slice A1 b.length c1) := by simp [World.cell?, hblk1]
      have b2 : w1.cell? ⟨w.heap.size, 2, none⟩ = some (.int .i64 n) := by simp [World.cell?, hblk1]
      have HD1 := Hold.mk hd1
      have HF1 := Hold.mk hf1
      have HTu := Hold.mk hTu
      clear hd1 hf1 hv1 hTu hblk1
      go_wp2_with fail
      refine (RefDisk.crash_calls _ m w1 u room synced bs HTu.out.1 n (fun h => h.2.2.1 rfl)).mono ?_
      rintro e w3 ⟨u3, rfl, hr2, hf2⟩
      have hT := Two.make HD1.out H0.out.gm HTu.out.2 H0.out.bm hr2 hf2 (fun k hk => ⟨hk.1, hk.2.1, hk.2.2.1, hk.2.2.2.2⟩)
      have hF : Fr (ours g m v) w w3 := ((Fr.of_below _ HB0.out).trans HF1.out (fun _ _ h => .inr h)).trans hf2 (fun _ _ e => .inl e)
      clear hr2 hf2
      obtain ⟨b3, hb3⟩ : ∃ V, bs.take (crashN synced bs.length n) = V := ⟨_, rfl⟩
      obtain ⟨s3, hs3⟩ : ∃ V : Int, (crashN synced bs.length n : Int) = V := ⟨_, rfl⟩
      rw [hb3, hs3] at hT
      clear hs3 hb3 b0 b1 b2
      try go_wp2_with fail
      go_meet
      case rel => exact ⟨⟨_, rfl, rfl⟩, _, _, _, _, hT, hF⟩
    · by_cases hf : n < 0 ∨ (bs.length : Int) < n
      · have HNo := Hold.mk hf
        clear hf
        go_wp2_with fail
        refine (Disk.cut_no base g w0 v room synced bs H0.out.d n HNo.out).mono ?_
        rintro e w1 ⟨rfl, rfl⟩
        go_wp2_with fail
        refine (RefDisk.cut_no _ m w0 u room synced bs H0.out.r n HNo.out).mono ?_
        rintro e w2 ⟨rfl, rfl⟩
        obtain ⟨w3, hw3⟩ : ∃ W, w0 = W := ⟨_, rfl⟩
        obtain ⟨v3, hv3⟩ : ∃ V, v = V := ⟨_, rfl⟩
        obtain ⟨u3, hu3⟩ : ∃ V, u = V := ⟨_, rfl⟩
        obtain ⟨s3, hs3⟩ : ∃ V, synced = V := ⟨_, rfl⟩
        obtain ⟨b3, hb3⟩ : ∃ V, bs = V := ⟨_, rfl⟩
        have hT : Two base g m w3 v3 u3 room s3 b3 := by subst hw3; subst hv3; subst hu3; subst hs3; subst hb3; exact H0.out
        have hF : Fr (ours g m v) w w3 := by subst hw3; exact Fr.of_below _ HB0.out
        clear hv3 hu3 hs3 hb3
        subst hw3
        try go_wp2_with fail
        go_meet
        case rel => exact ⟨⟨_, rfl, rfl⟩, _, _, _, _, hT, hF⟩
      · obtain ⟨n, rfl⟩ : ∃ j : Nat, n = (j : Int) := ⟨n.toNat, by omega⟩
        have HCut : Hold (n ≤ bs.length) := ⟨by omega⟩
        clear hf
        go_wp2_with fail
        refine (Disk.cut_yes base g w0 v room synced bs H0.out.d n HCut.out H0.out.size).mono ?_
        rintro e w1 ⟨v3, rfl, hd1, hf1, hv0⟩
        have hv1 : v3.ownBlock = v.ownBlock ∨ ∃ k, v3.ownBlock = some k ∧ w0.heap.size ≤ k := .inr ⟨_, hv0, Nat.le_refl _⟩
        clear hv0
        have hTu := H0.out.turn hd1 hf1 hv1
        have hblk1 : w1.heap[w.heap.size]? = some (.cells #[.int .u8 k, .slice A1 b.length c1, .int .i64 n] 46 (0, 0)) :=
          (hf1.block _ (Array.getElem?_eq_some_iff.1 HBlk.out).1 (by
            rintro (e | e)
            · have := HLt.out.1; omega
            · have := HLt.out.2 _ e; omega)).trans HBlk.out
        have b0 : w1.cell? ⟨w.heap.size, 0, none⟩ = some (.int .u8 k) := by simp [World.cell?, hblk1]
        have b1 : w1.cell? ⟨w.heap.size, 1, none⟩ = some (.slice A1 b.length c1) := by simp [World.cell?, hblk1]
        have b2 : w1.cell? ⟨w.heap.size, 2, none⟩ = some (.int .i64 n) := by simp [World.cell?, hblk1]
        have HD1 := Hold.mk hd1
        have HF1 := Hold.mk hf1
        have HTu := Hold.mk hTu
        clear hd1 hf1 hv1 hTu hblk1
        go_wp2_with fail
        refine (RefDisk.cut_yes _ m w1 u room synced bs HTu.out.1 n HCut.out (fun h => h.2.2.1 rfl)).mono ?_
        rintro e w3 ⟨u3, rfl, hr2, hf2⟩
        have hT := Two.make HD1.out H0.out.gm HTu.out.2 H0.out.bm hr2 hf2 (fun k hk => ⟨hk.1, hk.2.1, hk.2.2.1, hk.2.2.2.2⟩)
        have hF : Fr (ours g m v) w w3 := ((Fr.of_below _ HB0.out).trans HF1.out (fun _ _ h => .inr h)).trans hf2 (fun _ _ e => .inl e)
        clear hr2 hf2
        obtain ⟨b3, hb3⟩ : ∃ V, bs.take n = V := ⟨_, rfl⟩
        obtain ⟨s3, hs3⟩ : ∃ V : Int, (n : Int) = V := ⟨_, rfl⟩
        rw [hb3, hs3] at hT
        clear hs3 hb3 b0 b1 b2
        try go_wp2_with fail
        go_meet
        case rel => exact ⟨⟨_, rfl, rfl⟩, _, _, _, _, hT, hF⟩
  case rest =>
    obtain ⟨⟨x, rfl, rfl⟩, v3, u3, s3, b3, hT, hF⟩ := hcut
    obtain ⟨w3, hw3⟩ : ∃ W, wc = W := ⟨_, rfl⟩
    rw [hw3] at hT hF ⊢
    clear hw3 k5
    clear hw0 a0 a1 a2 k0 k1 hTail
    obtain ⟨Au, cu, hu, hnu, hcu, hru⟩ := hT.r.row
    have m0 := hT.r.c0
    have m1 : w3.cell? ⟨m, 1, none⟩ = some (.slice Au b3.length cu) := by rw [hT.r.c1, hu]
    have m2 := hT.r.c2
    have hqs : IntKind.i64.wrap (room - (b3.length : Int)) = room - b3.length := by have := hT.r.ok; rw [IntKind.wrap_i64]; omega
    have qm0 := Rep.row_string (P := Try.prog) (A := Au) (c := cu) Try.underlying22 Try.underlying5 Try.underlying9 hru.drew
    have HRu := Hold.mk hru
    have HT := Hold.mk hT
    have HF3 := Hold.mk hF
    clear hT hF hu hnu hcu hru
    go_wp2_with fail
    go_region_held_law (fun w' => w'.cell? ⟨m, 0, none⟩ = some (.int .i64 room) ∧ w'.cell? ⟨m, 1, none⟩ = some (.slice Au b3.length cu) ∧ w'.cell? ⟨m, 2, none⟩ = some (.int .i64 s3) ∧ (Go.convert 22 9 (.slice Au b3.length cu)).run Try.prog w' = .ok (.string (strOfNums b3)) w') (first | exact ⟨m0, m1, m2, qm0⟩ | exact ⟨n0, n1, n2, qm4⟩ | exact ⟨n0, n1, n2, qm5⟩) (first | (go_at_call 27; (refine (Disk.bytes_calls base g w3.drew v3 room s3 b3 (HT.out.d.keep rfl (fun _ _ => rfl))).mono ?_); rintro e w4 ⟨A4, c4, rfl, hn4, hown4, hb4⟩; have HT4 := Hold.mk (Two.below HT.out ((below_drewN w3 1).trans hb4)); have n0 := HT4.out.r.c0; have n1 : w4.cell? ⟨m, 1, none⟩ = some (.slice Au b3.length cu) := (hb4.cell (p := ⟨m, 1, none⟩) HT.out.r.lt).trans m1; have n2 := HT4.out.r.c2; have qb := Rep.row_string (P := Try.prog) (A := A4) (c := c4) Try.underlying22 Try.underlying5 Try.underlying9 hown4.row; have qm4 := Rep.row_string (P := Try.prog) (A := Au) (c := cu) Try.underlying22 Try.underlying5 Try.underlying9 (HRu.out.below ((below_drewN w3 1).trans hb4)); have HB4 := Hold.mk ((below_drewN w3 1).trans hb4); clear hb4 hown4 hn4) | (go_at_call 28; (refine (Disk.synced_calls base g w4 v3 room s3 b3 HT4.out.d).mono ?_); rintro e w5 ⟨rfl, rfl⟩) | (go_at_call 30; (refine (Disk.left_calls base g w4 v3 room s3 b3 HT4.out.d).mono ?_); rintro e w5 ⟨rfl, n5, rfl⟩; have qm5 := Rep.row_string (P := Try.prog) (A := Au) (c := cu) Try.underlying22 Try.underlying5 Try.underlying9 ((HRu.out.below HB4.out).drewN n5)))
    go_wp2
    go_ret
    exact ⟨rfl, (HF3.out.trans (Fr.of_below (ours g m v) HB4.out) (fun _ _ h => h)).drewN n5, v3, u3, s3, b3, HT4.out.below (below_drewN w4 n5)⟩
end Go.Proofs.Ytgeeicpjphdolaa.DiskLaw
