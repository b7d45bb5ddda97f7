/- lictorlaw07.alive by its walk; no condition. -/
import Derived.Test.YtgeeicpjphdolaaFrSame
import Derived.Lib.SlBytesConst
namespace Go.Proofs.Ytgeeicpjphdolaa.Frame
open Go.RowKit Go.Proofs.Ytgeeicpjphdolaa.B

def nine : List Int := [49, 50, 51, 52, 53, 54, 55, 56, 57]
theorem nine_scan : scanL (wrapL nine) = ([nine], 15) := by decide +kernel
theorem nine_crc : crc nine = 3421780262 := by decide +kernel

set_option maxRecDepth 10000 in
set_option maxHeartbeats 4000000 in
theorem alive_calls (w : World) : Calls Try.prog 15 #[] w fun e w' => e = .returned (.bool true) ∧ Below w.heap.size w w' := by
  have kc := fun (w : World) (C : Array Value) (n c : Nat) => Lib.run_convert_bytes_const (P := Try.prog) w 22 5 C n c Try.underlying22 Try.underlying5
  have hr0 : ∀ W : World, Rep.Row (Rep.int .u8) (fun b => b = W.heap.size) (W.alloc (.cells #[.int .u8 49, .int .u8 50, .int .u8 51, .int .u8 52, .int .u8 53, .int .u8 54, .int .u8 55, .int .u8 56, .int .u8 57] 5 (9, 10))) (some ⟨W.heap.size, 0, none⟩) nine := fun W =>
    Rep.row_lit W 5 (9, 10) nine (by simp [nine, maxLen]) (by decide)
  have HR0 := Hold.mk hr0
  clear hr0
  go_enter Try.func15, Try.ntmps15
  go_wp2_with fail
  refine (wrap_at _ _ _ nine _ _ rfl (HR0.out w) (by simp) (by decide) (by decide)).mono ?_
  rintro e w1 ⟨A1, c1, rfl, hn1, ho1, hb1⟩
  have HB1 : Hold (Below w.heap.size w w1) := ⟨(Below.alloc (Below.refl w.heap.size w) (Nat.le_refl _) _).trans (hb1.mono (by simp))⟩
  have HR1 := Hold.mk ho1.row
  have HLC : Hold ((wrapL nine).length ≤ c1) := by
    obtain ⟨A', c', e, hl⟩ := ho1.form
    injection e with _ _ e
    exact ⟨by rw [e]; exact hl⟩
  have hwl : (wrapL nine).length = 15 := by rw [wrapL_length]; rfl
  rw [hwl]
  have HWL := Hold.mk hwl
  clear hn1 ho1 hb1 hwl
  go_wp2_with fail
  refine (scan_at A1 15 c1 (wrapL nine) [nine] 15 _ _ (by rw [HWL.out]) nine_scan HR1.out HLC.out (by rw [HWL.out]; decide)).mono ?_
  rintro e w2 ⟨A2, c2, rfl, hb2, _, ho2⟩
  have HB2 : Hold (Below w.heap.size w w2) := ⟨HB1.out.trans (hb2.mono HB1.out.size)⟩
  have HR2 := Hold.mk ho2.row
  clear hb2 ho2
  go_wp2_with fail
  refine (sum_at _ _ _ nine _ _ rfl (HR0.out w2)).mono ?_
  rintro e w3 ⟨rfl, rfl⟩
  rw [nine_crc]
  have hb3 : Below w2.heap.size w2 (w2.alloc (.cells #[.int .u8 49, .int .u8 50, .int .u8 51, .int .u8 52, .int .u8 53, .int .u8 54, .int .u8 55, .int .u8 56, .int .u8 57] 5 (9, 10))) := (Below.refl _ _).alloc (Nat.le_refl _) _
  obtain ⟨ad, B1, d1, rfl, hcell, _, _, hrow⟩ := row_bytes (HR2.out.below hb3) 0 (by decide)
  rw [Rep.add_zero] at hcell
  have q1 := Rep.row_string (P := Try.prog) (A := B1) (c := d1) Try.underlying22 Try.underlying5 Try.underlying9 hrow
  clear hrow hb3
  replace hcell : World.cell? _ ad = some (.slice B1 9 d1) := hcell
  replace q1 : (convert 22 9 (.slice B1 9 d1)).run Try.prog _ = .ok (.string (strOfNums nine)) _ := q1
  have hs9 : strOfNums nine = { data := #[49, 50, 51, 52, 53, 54, 55, 56, 57] } := rfl
  rw [hs9] at q1
  clear hs9
  go_wp2
  go_ret
  refine ⟨by rfl, HB2.out.alloc HB2.out.size _⟩
end Go.Proofs.Ytgeeicpjphdolaa.Frame
