/- Only more: what an act leaves of an entry that may be: the plain law. -/
import Derived.Test.YtebhclgnpnlekaaEnt5
namespace Go.Proofs.Ytebhclgnpnlekaa.Ent
open Go.RowKit Go.Proofs.Ytebhclgnpnlekaa.B Go.Proofs.Ytebhclgnpnlekaa.Cmd Go.Proofs.Ytebhclgnpnlekaa.Agg
open Go.Proofs.Ytebhclgnpnlekaa.Preds (okSet)
theorem okStamp_iff {t : Int} : okStamp t = true ↔ 16 ≤ t ∧ t < 1048576 ∧ t % 16 ≤ 8 := by unfold okStamp; simp
theorem okTimes_iff {lo hi : Int} : okTimes lo hi = true ↔ (lo = 0 ∧ hi = 0) ∨ (okStamp lo = true ∧ okStamp hi = true ∧ lo ≤ hi) := by unfold okTimes; simp
theorem okE_iff {e : ER} {lf la lv : List CmdD} : okE e lf la lv = true ↔ okTimes e.lo e.hi = true ∧ okCmd e.c = true ∧ okBallot e.pr = true ∧ okBallot e.ab = true ∧ okMust e.f lf (e.f.t != 0) = true ∧ okMust e.a la (e.ab != 0) = true ∧ okMust e.v lv e.dn = true := by
  unfold okE
  simp only [Bool.and_eq_true, and_assoc]
theorem wf_stamp {t : Int} (h : okStamp t = true) : (Lit.int .i64 t).wf = true := by
  obtain ⟨h1, h2, _⟩ := okStamp_iff.1 h
  have e1 : IntKind.i64.min = -9223372036854775808 := by decide
  have e2 : IntKind.i64.max = 9223372036854775807 := by decide
  simp [Lit.wf, e1, e2] <;> omega
theorem times_res {lo hi t : Int} (h : okTimes lo hi = true) (ht : okStamp t = true) : okTimes (if lo = 0 then t else min lo t) (max hi t) = true ∧ okStamp (if lo = 0 then t else min lo t) = true ∧ okStamp (max hi t) = true ∧ (lo ≠ 0 → (if lo = 0 then t else min lo t) ≤ lo) ∧ (if lo = 0 then t else min lo t) ≠ 0 ∧ hi ≤ max hi t := by
  have h1 := (okStamp_iff.1 ht).1
  rcases okTimes_iff.1 h with ⟨rfl, rfl⟩ | ⟨a, b, c⟩
  · rw [if_pos rfl, Int.max_eq_right (by omega)]
    exact ⟨okTimes_iff.2 (.inr ⟨ht, ht, by omega⟩), ht, ht, fun h => absurd rfl h, by omega, by omega⟩
  · have h0 : lo ≠ 0 := by have := (okStamp_iff.1 a).1; omega
    rw [if_neg h0]
    have k1 : okStamp (min lo t) = true := by rcases Int.le_total lo t with h | h
                                              · rw [Int.min_eq_left h]; exact a
                                              · rw [Int.min_eq_right h]; exact ht
    have k2 : okStamp (max hi t) = true := by rcases Int.le_total hi t with h | h
                                              · rw [Int.max_eq_right h]; exact ht
                                              · rw [Int.max_eq_left h]; exact b
    exact ⟨okTimes_iff.2 (.inr ⟨k1, k2, by omega⟩), k1, k2, fun _ => by omega, by have := (okStamp_iff.1 k1).1; omega, by omega⟩
theorem okMust_true {v : VR} {l : List CmdD} (h : okFull v l = true) : okMust v l true = true := h
theorem full_stamp {v : VR} {l : List CmdD} (h : okFull v l = true) : okStamp v.t = true := by unfold okFull at h; rw [Bool.and_eq_true] at h; exact h.1
theorem full_ne {v : VR} {l : List CmdD} (h : okFull v l = true) : (v.t != 0) = true := by have := (okStamp_iff.1 (full_stamp h)).1; simp; omega
/-- What an act leaves. -/
structure More (w : World) (e X : ER) (lf la lw lf' la' lw' : List CmdD) : Prop where
  at_ : EAt w X lf' la' lw'
  ok : okE X lf' la' lw' = true
  pr : e.pr ≤ X.pr
  lo : e.lo ≠ 0 → X.lo ≤ e.lo ∧ X.lo ≠ 0
  hi : e.hi ≤ X.hi
  fr : e.fr = true → X.fr = true
  c : X.c = e.c
  f : e.f.t ≠ 0 → X.f = e.f ∧ lf' = lf
  v : e.dn = true → X.dn = true ∧ X.v.t = e.v.t ∧ lw' = lw
theorem More.refl {w : World} {e : ER} {lf la lw : List CmdD} (h : EAt w e lf la lw) (hk : okE e lf la lw = true) : More w e e lf la lw lf la lw :=
  ⟨h, hk, Int.le_refl _, fun h => ⟨Int.le_refl _, h⟩, Int.le_refl _, id, rfl, fun _ => ⟨rfl, rfl⟩, fun h => ⟨h, rfl, rfl⟩⟩
theorem act_more {w : World} {e : ER} {lf la lw : List CmdD} (h : EAt w e lf la lw) (hk : okE e lf la lw = true) (k b : Int) {v : VR} {lv : List CmdD} (hb : (Lit.int .i64 b).wf = true) (hv : VAt w v lv) :
    ∃ lf' la' lw', More w e (actS e k b v (okFull v lv) (okSame e.f v lf lv) (okSame e.v v lw lv)).1 lf la lw lf' la' lw' := by
  have hr := More.refl h hk
  obtain ⟨h1, h2, h3, h4, h5, h6, h7⟩ := okE_iff.1 hk
  unfold actS
  split
  · -- Promise
    unfold promS
    split
    · split
      · exact ⟨_, _, _, hr⟩
      · rename_i hbal hlt
        exact ⟨lf, la, lw, ⟨h.c, hb, h.lo, h.hi, h.ab, h.f, h.a, h.v⟩, okE_iff.2 ⟨h1, h2, hbal, h4, h5, h6, h7⟩, by show e.pr ≤ b; omega, hr.lo, hr.hi, hr.fr, rfl, hr.f, hr.v⟩
    · exact ⟨_, _, _, hr⟩
  split
  · -- Reserve
    unfold resS
    split
    · rename_i ht
      obtain ⟨t1, t2, t3, t4, t5, t6⟩ := times_res h1 ht
      exact ⟨lf, la, lw, ⟨h.c, h.pr, wf_stamp t2, wf_stamp t3, h.ab, h.f, h.a, h.v⟩, okE_iff.2 ⟨t1, h2, h3, h4, h5, h6, h7⟩, hr.pr, fun h0 => ⟨t4 h0, t5⟩, t6, hr.fr, rfl, hr.f, hr.v⟩
    · exact ⟨_, _, _, hr⟩
  split
  · -- Vote
    unfold voteS
    split
    · rename_i hf
      split
      · exact ⟨_, _, _, hr⟩
      · split
        · rename_i hn
          have ht := full_stamp hf
          obtain ⟨t1, t2, t3, t4, t5, t6⟩ := times_res h1 ht
          unfold resS
          rw [if_pos ht]
          refine ⟨lv, la, lw, ⟨h.c, h.pr, wf_stamp t2, wf_stamp t3, h.ab, hv, h.a, h.v⟩, okE_iff.2 ⟨t1, h2, h3, h4, ?_, h6, h7⟩, hr.pr, fun h0 => ⟨t4 h0, t5⟩, t6, hr.fr, rfl, fun h0 => ?_, hr.v⟩
          · show okMust v lv (v.t != 0) = true
            rw [full_ne hf]; exact okMust_true hf
          · unfold okNone at hn
            rw [decide_eq_true_eq] at hn
            exact absurd hn.1 h0
        · exact ⟨_, _, _, hr⟩
    · exact ⟨_, _, _, hr⟩
  split
  · -- Accept
    unfold accS
    split
    · rename_i hf
      simp only [Bool.and_eq_true, decide_eq_true_eq] at hf
      obtain ⟨⟨hf, hbal⟩, hb1⟩ := hf
      split
      · exact ⟨_, _, _, hr⟩
      · have ht := full_stamp hf
        obtain ⟨t1, t2, t3, t4, t5, t6⟩ := times_res h1 ht
        unfold resS
        rw [if_pos ht]
        refine ⟨lf, lv, lw, ⟨h.c, hb, wf_stamp t2, wf_stamp t3, hb, h.f, hv, h.v⟩, okE_iff.2 ⟨t1, h2, hbal, hbal, h5, ?_, h7⟩, by show e.pr ≤ b; omega, fun h0 => ⟨t4 h0, t5⟩, t6, hr.fr, rfl, hr.f, hr.v⟩
        show okMust v lv (b != 0) = true
        rw [show (b != 0) = true by simp; omega]; exact okMust_true hf
    · exact ⟨_, _, _, hr⟩
  split
  · -- Free
    exact ⟨lf, la, lw, ⟨h.c, h.pr, h.lo, h.hi, h.ab, h.f, h.a, h.v⟩, okE_iff.2 ⟨h1, h2, h3, h4, h5, h6, h7⟩, hr.pr, hr.lo, hr.hi, fun _ => rfl, rfl, hr.f, hr.v⟩
  · -- Finish
    unfold finS
    split
    · rename_i hf
      split
      · exact ⟨_, _, _, hr⟩
      · rename_i hs
        refine ⟨lf, la, lv, ⟨h.c, h.pr, h.lo, h.hi, h.ab, h.f, h.a, hv⟩, okE_iff.2 ⟨h1, h2, h3, h4, h5, h6, okMust_true hf⟩, hr.pr, hr.lo, hr.hi, hr.fr, rfl, hr.f, fun hd => ⟨rfl, ?_⟩⟩
        have : okSame e.v v lw lv = true := by
          cases hq : okSame e.v v lw lv with
          | true => rfl
          | false => exact absurd (by rw [hd, hq]; rfl) hs
        unfold okSame at this
        rw [decide_eq_true_eq] at this
        exact ⟨this.1.symm, this.2.symm⟩
    · exact ⟨_, _, _, hr⟩
end Go.Proofs.Ytebhclgnpnlekaa.Ent
