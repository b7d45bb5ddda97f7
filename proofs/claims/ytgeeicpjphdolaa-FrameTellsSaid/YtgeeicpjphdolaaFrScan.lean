/- frame.Scan by its walk; no condition but that the bytes are read, and fewer than a million. -/
import Derived.Test.YtgeeicpjphdolaaFrFirst
namespace Go.Proofs.Ytgeeicpjphdolaa.Frame
open Go.RowKit Go.Proofs.Ytgeeicpjphdolaa.B

def scanF : Nat → List Int → List (List Int) × Nat
  | 0, _ => ([], 0)
  | f + 1, log => match firstL log with
    | none => ([], 0)
    | some b => (b :: (scanF f (log.drop (b.length + 6))).1, b.length + 6 + (scanF f (log.drop (b.length + 6))).2)
def scanL (log : List Int) : List (List Int) × Nat := scanF log.length log

theorem info_bytes : (Try.prog.info? 22).map (fun i => (i.zero, i.size, i.bytes)) = some (some (.slice none 0 0), 1, 24) := by kernel_rfl

def ScanPost (bs : List Int) (w : World) (e : Ending) (w' : World) : Prop :=
  ∃ A1 c1, e = .returned (.tuple #[.slice A1 (scanL bs).1.length c1, .int .i64 ((scanL bs).2 : Int)]) ∧ Below w.heap.size w w' ∧ (A1 = none → c1 = 0) ∧
    Rep.Own (Rep.slice (Rep.int .u8)) 22 w.heap.size (fun k => w.heap.size ≤ k) w' (.slice A1 (scanL bs).1.length c1) (scanL bs).1

/-- What holds at the label. -/
def ScanIn (bs : List Int) (w : World) (v4 : Value) (at_ : Nat) (wr : World) : Prop :=
  ∃ outs, Below w.heap.size w wr ∧ Rep.Own (Rep.slice (Rep.int .u8)) 22 w.heap.size (fun k => w.heap.size ≤ k) wr v4 outs ∧ outs.length ≤ at_ ∧
    ∃ f, (bs.drop at_).length ≤ f ∧ (scanL bs).1 = outs ++ (scanF f (bs.drop at_)).1 ∧ (scanL bs).2 = at_ + (scanF f (bs.drop at_)).2
def ScanJ (A : Option Addr) (c : Nat) (bs : List Int) (w : World) (a' : Act) (wr : World) : Prop :=
  ∃ (v4 : Value) (at_ : Nat) (u6 u7 u8 u9 u10 u11 u12 u13 u14 u15 u16 u17 u18 u19 u20 u21 u22 u23 u24 u25 u26 u27 : Value),
      a' = { tmps := #[.slice A bs.length c, undef, .slice none 0 0, .int .i64 0, v4, .int .i64 (at_ : Int), u6, u7, u8, u9, u10, u11, u12, u13, u14, u15, u16, u17, u18, u19, u20, u21, u22, u23, u24, u25, u26, u27], defers := [] } ∧
      at_ ≤ bs.length ∧ ScanIn bs w v4 at_ wr

set_option maxHeartbeats 4000000 in
theorem scan_calls (A : Option Addr) (c : Nat) (bs : List Int) (I : Nat → Prop) (w : World) (hr : Rep.Row (Rep.int .u8) I w A bs) (hc : bs.length ≤ c) (hl : bs.length ≤ 1000000) :
    Calls Try.prog 18 #[.slice A bs.length c] w (ScanPost bs w) := by
  have HR := Hold.mk hr
  have HC := Hold.mk hc
  have HL := Hold.mk hl
  clear hr hc hl
  go_enter Try.func18, Try.ntmps18
  go_wp2
  refine scope_jumps3 0 (ScanJ A c bs w)
    (fun a' _ => bs.length - (intOf (a'.tmps.getD 5 undef)).toNat) rfl ?_ ?_
  · rintro a' wr ⟨v4, at_, u6, u7, u8, u9, u10, u11, u12, u13, u14, u15, u16, u17, u18, u19, u20, u21, u22, u23, u24, u25, u26, u27, rfl, hat, hJ⟩
    obtain ⟨outs, HJ0⟩ := hJ
    have HJ := Hold.mk HJ0
    clear HJ0
    have hsz : (Try.prog.info? 5).map (·.size) = some 1 := by kernel_rfl
    have s1 := fun W => Rep.run_cut_from (P := Try.prog) 22 5 .i64 Try.underlying22 hsz A bs.length c (at_ : Int) (by omega) (by omega) W
    have r1 : Rep.Row (Rep.int .u8) (fun k => k < w.heap.size) wr (Rep.cutAddr A c at_ 1) (bs.drop at_) := by
      have := (HR.out.cut at_ bs.length c (by omega) HC.out)
      rw [List.take_length] at this
      exact this.move fun k _ hlt => ⟨hlt, HJ.out.1.block k hlt⟩
    have z1 : (at_ : Int).toNat = at_ := Int.toNat_natCast at_
    have z2 : bs.length - at_ = (bs.drop at_).length := by rw [List.length_drop]
    have hdl : (bs.drop at_).length ≤ c - at_ := by rw [List.length_drop]; have := HC.out; omega
    simp only [z1, z2] at s1
    obtain ⟨rest, hrest⟩ : ∃ rest, bs.drop at_ = rest := ⟨_, rfl⟩
    have hrl : rest.length + at_ = bs.length := by rw [← hrest, List.length_drop]; omega
    have HRest := Hold.mk hrest
    have HRL := Hold.mk hrl
    rw [hrest] at s1 r1 hdl HJ
    clear hrest hrl
    obtain ⟨A2, hA2⟩ : ∃ A2, Rep.cutAddr A c at_ 1 = A2 := ⟨_, rfl⟩
    obtain ⟨c2, hc2⟩ : ∃ c2, c - at_ = c2 := ⟨_, rfl⟩
    rw [hA2] at s1 r1
    rw [hc2] at s1 hdl
    clear hA2 hc2 z1 z2 hsz
    have HR1 := Hold.mk r1
    have HD := Hold.mk hdl
    clear r1 hdl
    go_wp2_with fail
    (with_reducible refine (first_calls A2 c2 rest _ _ HR1.out HD.out).mono ?_)
    rintro e w1 ⟨v, ok, rfl, hb1, hcase⟩
    obtain ⟨hbel, hown, hol, f, hf, hs1, hs2⟩ := HJ.out
    rcases hcase with ⟨hno, rfl⟩ | ⟨hyes, rfl, A3, c3, rfl, hown3⟩
    · have HS : Hold ((scanL bs).1 = outs ∧ (scanL bs).2 = at_) := by
        cases f with
        | zero => exact ⟨by simpa [scanF] using hs1, by simpa [scanF] using hs2⟩
        | succ f => exact ⟨by simpa [scanF, hno] using hs1, by simpa [scanF, hno] using hs2⟩
      obtain ⟨A4, c4, hv, _⟩ := hown.form
      have hn4 := hown.cap_nil
      have HO := Hold.mk (hown.below hb1)
      have HB := Hold.mk (hbel.trans (hb1.mono hbel.size))
      have HV := Hold.mk hv
      have HN := Hold.mk hn4
      clear hbel hown hol hf hs1 hs2 hno hb1 hv HJ hn4
      go_wp2
      simp only [Exit.jump]
      go_ret2
      refine ⟨A4, c4, ?_, HB.out, ?_, ?_⟩
      · rw [HS.out.1, HS.out.2, ← HV.out]; rfl
      · exact fun h => HN.out A4 outs.length c4 HV.out h
      · rw [HS.out.1, ← HV.out]; exact HO.out
    · clear HJ
      have hbl : (bodyL rest).length + 6 ≤ rest.length := by
        unfold firstL at hyes
        split at hyes
        · cases hyes
        · split at hyes
          · cases hyes
          · unfold bodyL; rw [List.length_drop, List.length_take]; omega
      have hk3 : (Rep.slice (Rep.int .u8)).K (fun k => wr.heap.size ≤ k) w1 (bodyL rest) [.slice A3 (bodyL rest).length c3] := by
        obtain ⟨A3', c3', e3, hlc⟩ := hown3.form
        injection e3 with e1 e2 e3
        refine ⟨A3, c3, rfl, by omega, fun h => hown3.cap_nil _ _ _ rfl h, hown3.row.move fun k hk _ => ⟨?_, rfl⟩⟩
        rcases hk with hk | hk
        · exact hk.elim
        · exact (hown3.block_lt k hk).1
      have hf' : ∃ g, f = g + 1 := by
        cases f with
        | zero => omega
        | succ g => exact ⟨g, rfl⟩
      obtain ⟨f, rfl⟩ := hf'
      simp only [scanF, hyes] at hs1 hs2
      obtain ⟨bd, hbd⟩ : ∃ bd, bodyL rest = bd := ⟨_, rfl⟩
      rw [hbd] at hbl hk3 hs1 hs2
      rw [hbd]
      have HS1 := Hold.mk hs1
      have HS2 := Hold.mk hs2
      have HO := Hold.mk (hown.below hb1)
      have HOlt := Hold.mk (fun k hk => (hown.block_lt k hk).2)
      have HB := Hold.mk (hbel.trans (hb1.mono hbel.size))
      have HSz := Hold.mk hb1.size
      have HSz0 := Hold.mk hbel.size
      have HK := Hold.mk (Rep.row_box 22 hk3)
      have HBL := Hold.mk hbl
      have HOL := Hold.mk hol
      have HF := Hold.mk hf
      have hbm : (bd.length : Int) ≤ 1000000 := by have := HL.out; have := HRL.out; omega
      have ham : (at_ : Int) ≤ 1000000 := by have := HL.out; have := HRL.out; omega
      clear hbel hown hol hf hs1 hs2 hyes hb1 hown3 hk3 hbl hbd
      go_wp2_with (at_builtin; refine Rep.wp_append (Rep.slice (Rep.int .u8)) rfl (.tmp 16) (.tmp 18) 27 22 (.slice none 0 0) 24 rfl Try.underlying27 info_bytes rfl (by decide) (by decide) w.heap.size v4 outs [bd] (some ⟨w1.heap.size, 0, none⟩) 1 _ rfl rfl rfl (HO.out.alloc _) HK.out ?c1 (by simp) ?c2 ?c3 ?_)
      case c1 =>
        intro k hk _ he
        have := HOlt.out k he.symm
        have := HSz.out
        rcases hk with hk | hk <;> omega
      case c2 => have := HB.out.size; simp; omega
      case c3 => have := HOL.out; have := HL.out; simp; omega
      intro v5 w5 hown5 hg5 hat5
      have HO5 := Hold.mk (hown5.mono (J := fun k => w.heap.size ≤ k) fun k hk _ _ => by
        have := HSz.out
        have := HSz0.out
        rcases hk with hk | hk | hk <;> omega)
      have HB5 := Hold.mk ((HB.out.alloc HB.out.size _).grown hg5 (by have := HB.out.size; simp; omega) (fun k h => (HO.out.block_lt k h).1))
      clear hown5 hg5 hat5
      go_wp2
      go_step3
      have hb := HBL.out
      have hrl := HRL.out
      have eat : (at_ : Int) + (2 + bd.length + 4) = ((at_ + (bd.length + 6) : Nat) : Int) := by omega
      rw [eat]
      have edrop : bs.drop (at_ + (bd.length + 6)) = rest.drop (bd.length + 6) := by rw [← List.drop_drop, HRest.out]
      refine ⟨rfl, ⟨v5, _, _, _, _, _, _, _, _, _, _, _, _, _, _, _, _, _, _, _, _, _, _, _, rfl, by omega, outs ++ [bd], HB5.out, HO5.out, ?_, f, ?_, ?_, ?_⟩, ?_⟩
      · have := HOL.out; simp; omega
      · have := HF.out; rw [edrop, List.length_drop]; omega
      · rw [edrop, HS1.out]; simp
      · rw [edrop, HS2.out]; omega
      · simp [intOf]; omega
  · intro pass
    have pass' := Hold.mk pass
    clear pass
    go_wp2
    go_step3
    rename_i K hK
    refine hK _ _ (pass'.out _ _ ⟨.slice none 0 0, 0, _, _, _, _, _, _, _, _, _, _, _, _, _, _, _, _, _, _, _, _, _, _, rfl, by omega, [], Below.refl _ _, Rep.Own.nil _ _ _ _ _, by simp, bs.length, by simp, ?_, ?_⟩)
    · simp [scanL]
    · simp [scanL]
/-- The same, its arguments and answer as they stand at a call. -/
theorem scan_at (A : Option Addr) (n c : Nat) (bs : List Int) (outs : List (List Int)) (m : Nat) (I : Nat → Prop) (w : World) (hn : n = bs.length) (hs : scanL bs = (outs, m)) (hr : Rep.Row (Rep.int .u8) I w A bs) (hc : bs.length ≤ c) (hl : bs.length ≤ 1000000) :
    Calls Try.prog 18 #[.slice A n c] w fun e w' => ∃ A1 c1, e = .returned (.tuple #[.slice A1 outs.length c1, .int .i64 (m : Int)]) ∧ Below w.heap.size w w' ∧ (A1 = none → c1 = 0) ∧
      Rep.Own (Rep.slice (Rep.int .u8)) 22 w.heap.size (fun k => w.heap.size ≤ k) w' (.slice A1 outs.length c1) outs := by
  subst hn
  have h := scan_calls A c bs I w hr hc hl
  unfold ScanPost at h
  rw [hs] at h
  exact h
end Go.Proofs.Ytgeeicpjphdolaa.Frame
