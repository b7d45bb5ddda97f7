/- slices.symMerge of commands, whole, by its walk. Made by mk_sort.py. No condition. -/
import Derived.Test.YtebhclgnpnlekaaSortM
import Derived.Deep.Cut
namespace Go.Proofs.Ytebhclgnpnlekaa.Sorts
open Go.RowKit Go.Lib Go.Sort Go.Shelf Go.Proofs.Ytebhclgnpnlekaa.B Go.Proofs.Ytebhclgnpnlekaa.Cmd Go.Proofs.Ytebhclgnpnlekaa.SortLaw
variable {P : Program} {k : Nat}
set_option maxHeartbeats 16000000 in
set_option maxRecDepth 1000000 in
theorem merge_many (N : Nat) (ih : MergeAt P k N) (L : SL P k) (blk off cap a m b : Nat) (d0 d : Array RC) (w0 w : World) (R : RowK enc k w0 blk off d0) (hs : d0.size = d.size) (S : SWK enc k w0 blk off d w) (hN : b ≤ a + (N + 1)) (h1 : a < m) (h2 : m < b) (hb : b ≤ d.size) (hsz : d.size < 4611686018427387904) (sl : SortedIn (ltOf cf) a m d) (sr : SortedIn (ltOf cf) m b d) (hn1 : m ≠ a + 1) (hn2 : b ≠ m + 1) :
    Calls P 162 #[.slice (some ⟨blk, off, none⟩) d.size cap, .int .i64 a, .int .i64 m, .int .i64 b, .func (.func byN) #[] #[]] w fun e w' =>
      e = .returned (.tuple #[]) ∧ ∃ d', Aside (SWK enc k w0 blk off d' w') ∧ Aside (Merged d a b d') := by
  have mixed := L.mixed; have t0 := L.t0; have a0 := L.a0; have z0 := L.z0; have v0 := L.v0; have t3 := L.t3; have a3 := L.a3; have z3 := L.z3; have v3 := L.v3; have t4 := L.t4; have a4 := L.a4; have z4 := L.z4; have v4 := L.v4; have tu := L.tu; have au := L.au; have zu := L.zu; have vu := L.vu; have ts := L.ts; have asl := L.asl; have zs := L.zs; have vs := L.vs; have tf := L.tf; have af := L.af; have zf := L.zf; have vf := L.vf; have aE := L.aE; have zE := L.zE; have eg := L.eg
  have S0 : Aside _ := S
  have SLf : Aside _ := sl
  have SRt : Aside _ := sr
  have IH : Aside _ := ih
  clear S sl sr ih
  have eR : ∀ args w, (callFunc 166 args).run P w = .ok (.enter 166 args) w := enters_of L.fR (by kernel_rfl) rfl
  have eM : ∀ args w, (callFunc 162 args).run P w = .ok (.enter 162 args) w := enters_of L.fM (by kernel_rfl) rfl
  have t0' : (((m : Int) - (a : Int)) == 1) = false := by simp; omega
  have t1' : (((b : Int) - (m : Int)) == 1) = false := by simp; omega
  obtain ⟨mid, hmid⟩ : ∃ mid : Nat, (a + b) / 2 = mid := ⟨_, rfl⟩
  have qmid0 : IntKind.u64.wrap ((a : Int) + (b : Int)) = (a : Int) + (b : Int) := by rw [IntKind.wrap_u64]; omega
  have qmid1 : ((a : Int) + (b : Int)) / 2 = (mid : Int) := by omega
  have qmid2 : IntKind.i64.wrap (mid : Int) = (mid : Int) := by rw [IntKind.wrap_i64]; omega
  obtain ⟨n, hn⟩ : ∃ n, mid + m = n := ⟨_, rfl⟩
  obtain ⟨p, hp⟩ : ∃ p, n = p + 1 := ⟨n - 1, by omega⟩
  have en : (mid : Int) + (m : Int) = (n : Int) := by omega
  have ep : (n : Int) - 1 = (p : Int) := by omega
  have hmid1 : a < mid := by omega
  have hmid2 : mid < b := by omega
  have key : ∃ Lo Up : Nat, a ≤ Lo ∧ Lo ≤ Up ∧ Up ≤ m ∧ Up ≤ mid ∧ Up + m ≤ n ∧ n ≤ b + Lo ∧ (Lo = a ∨ n - Lo = b) ∧ (Up = m ∨ n - Up = m) ∧ ((mid < m ∧ Lo = n - b ∧ Up = mid) ∨ (m ≤ mid ∧ Lo = a ∧ Up = m)) := by
    by_cases c : mid < m
    · exact ⟨n - b, mid, by omega, by omega, by omega, by omega, by omega, by omega, .inr (by omega), .inr (by omega), .inl ⟨c, rfl, rfl⟩⟩
    · exact ⟨a, m, by omega, by omega, by omega, by omega, by omega, by omega, .inl rfl, .inl rfl, .inr ⟨by omega, rfl, rfl⟩⟩
  obtain ⟨Lo, Up, u1, u2, u3, u4, u5, u6, u7, u8, u9⟩ := key
  have U78 : Hid ((Lo = a ∨ n - Lo = b) ∧ (Up = m ∨ n - Up = m)) := ⟨u7, u8⟩
  have HMID : Hid ((a + b) / 2 = mid ∧ mid + m = n ∧ n = p + 1) := ⟨hmid, hn, hp⟩
  clear u7 u8 hmid hn hp
  rcases u9 with ⟨v1, v2, v3⟩ | ⟨v1, v2, v3⟩
  · have t2 : (mid : Int) < (m : Int) := by omega
    have eLo : (n : Int) - (b : Int) = (Lo : Int) := by have := HMID.out; omega
    have V2 : Hid (Lo = n - b) := v2
    have V3 : Hid (Up = mid) := v3
    clear v2 v3
    go_enter L.fM, Try.ntmps162
    go_wp2
    go_loopg [20, 21] (Up - Lo) (fun kx s20 s21 wr => ∃ (s r : Nat), s20 = .int .i64 s ∧ s21 = .int .i64 r ∧ r - s ≤ kx ∧ Lo ≤ s ∧ s ≤ r ∧ r ≤ Up ∧ Aside (SWK enc k w0 blk off d wr) ∧ Hid (s = Lo ∨ ltOf cf d[n - s]! d[s - 1]! = false) ∧ Hid (r = Up ∨ ltOf cf d[p - r]! d[r]! = true))
    case atStart => exact ⟨Lo, Up, by have := V2.out; first | rfl | (congr 1; omega), by have := V3.out; first | rfl | (congr 1; omega), Nat.le_refl _, Nat.le_refl _, u2, Nat.le_refl _, S0, (show Hid _ from .inl rfl), (show Hid _ from .inl rfl)⟩
    case round =>
      obtain ⟨s, r, rfl, rfl, hkx, hls, hsr, hru, S1, I1, I2⟩ := hrel
      clear S0
      by_cases hlt : s < r
      · have hltz : (s : Int) < (r : Int) := by omega
        obtain ⟨c, hc⟩ : ∃ c : Nat, (s + r) / 2 = c := ⟨_, rfl⟩
        have qc0 : IntKind.u64.wrap ((s : Int) + (r : Int)) = (s : Int) + (r : Int) := by rw [IntKind.wrap_u64]; omega
        have qc1 : ((s : Int) + (r : Int)) / 2 = (c : Int) := by omega
        have qc2 : IntKind.i64.wrap (c : Int) = (c : Int) := by rw [IntKind.wrap_i64]; omega
        have z1 : (c : Int) < (d.size : Int) := by omega
        have z1n : c < d.size := by omega
        have hpn : p + 1 = n := HMID.out.2.2.symm
        obtain ⟨u, hu⟩ : ∃ u, p - c = u := ⟨_, rfl⟩
        have ru : IntKind.i64.wrap ((p : Int) - (c : Int)) = (u : Int) := by rw [IntKind.wrap_i64]; omega
        have z2 : (u : Int) < (d.size : Int) := by omega
        have z2n : u < d.size := by omega
        have HU : Hid (p - c = u) := hu
        have hun : n - (c + 1) = u := by omega
        have HUN : Hid (n - (c + 1) = u) := hun
        clear hu hun hpn
        cases hL : ltOf cf d[u]! d[c]! with
        | true =>
          obtain ⟨x1, hx1⟩ : ∃ x, x = d[u]! := ⟨_, rfl⟩
          obtain ⟨y1, hy1⟩ : ∃ x, x = d[c]! := ⟨_, rfl⟩
          have l1a := S1.out.ld R (by omega) P (u) (by omega)
          have l1b := S1.out.ld R (by omega) P (c) (by omega)
          rw [← hx1] at l1a
          rw [← hy1] at l1b
          have hc1 := S1.out.cmp (L.cmp blk off d.size w0) rfl x1 y1
          have hv1 : cf x1 y1 < 0 := by rw [hx1, hy1]; exact of_decide_eq_true hL
          have hd1 : decide (cf x1 y1 < 0) = true := decide_eq_true hv1
          have nx1 := R.hk x1
          have ny1 := R.hk y1
          clear hx1 hy1
          go_wp2_with fail
          go_quiet_grown (first | (go_at_fn byN; refine Calls.grown_of (hc1 _ _)))
          have S2 : Aside (SWK enc k w0 blk off d (grow (wr.drewN nq) osq)) := S1.out.grown nq osq
          clear l1a l1b hc1 S1
          generalize grow (wr.drewN nq) osq = w2 at S2 ⊢
          clear nq osq
          go_wp2
          go_roundg (c - s)
          case measure => omega
          case rel => exact ⟨s, c, rfl, rfl, Nat.le_refl _, hls, by omega, by omega, S2, I1, (show Hid _ from .inr (by rw [HU.out]; exact hL))⟩
        | false =>
          obtain ⟨x1, hx1⟩ : ∃ x, x = d[u]! := ⟨_, rfl⟩
          obtain ⟨y1, hy1⟩ : ∃ x, x = d[c]! := ⟨_, rfl⟩
          have l1a := S1.out.ld R (by omega) P (u) (by omega)
          have l1b := S1.out.ld R (by omega) P (c) (by omega)
          rw [← hx1] at l1a
          rw [← hy1] at l1b
          have hc1 := S1.out.cmp (L.cmp blk off d.size w0) rfl x1 y1
          have hv1 : ¬ cf x1 y1 < 0 := by rw [hx1, hy1]; exact of_decide_eq_false hL
          have hd1 : decide (cf x1 y1 < 0) = false := decide_eq_false hv1
          have nx1 := R.hk x1
          have ny1 := R.hk y1
          clear hx1 hy1
          go_wp2_with fail
          go_quiet_grown (first | (go_at_fn byN; refine Calls.grown_of (hc1 _ _)))
          have S2 : Aside (SWK enc k w0 blk off d (grow (wr.drewN nq) osq)) := S1.out.grown nq osq
          clear l1a l1b hc1 S1
          generalize grow (wr.drewN nq) osq = w2 at S2 ⊢
          clear nq osq
          go_wp2
          go_roundg (r - (c + 1))
          case measure => omega
          case rel => exact ⟨c + 1, r, by go_num, rfl, Nat.le_refl _, by omega, by omega, hru, S2, (show Hid _ from .inr (by rw [HUN.out]; exact hL)), I2⟩
      · have hltz : ¬ (s : Int) < (r : Int) := by omega
        obtain rfl : s = r := by omega
        obtain ⟨e, he⟩ : ∃ e, n - s = e := ⟨_, rfl⟩
        have ee : (n : Int) - (s : Int) = (e : Int) := by omega
        have hme : m ≤ e := by omega
        have heb : e ≤ b := by omega
        have HC : Hid (Cut (ltOf cf) d a m b s e) := ⟨by omega, by omega, hme, heb, by
          rcases I1.out with h | h
          · rcases U78.out.1 with q | q
            · left; omega
            · right; left; omega
          · right; right; rw [he] at h; exact h, by
          rcases I2.out with h | h
          · rcases U78.out.2 with q | q
            · left; omega
            · right; left; omega
          · right; right
            have hpn := HMID.out.2.2
            rw [show p - s = e - 1 by omega] at h
            exact h⟩
        have hse : s + (e - m) = mid := by have := HMID.out; omega
        have HSE : Hid (s + (e - m) = mid) := hse
        have has : a ≤ s := by omega
        have hsm : s ≤ m := by omega
        have HE : Hid (n - s = e) := he
        clear he hse
        by_cases r1 : s < m
        · have t3 : (s : Int) < (m : Int) := by omega
          by_cases r2 : m < e
          · have t4 : (m : Int) < (e : Int) := by omega
            have hc1 := rotate_calls L blk off cap s m e d0 d w0 wr R (by omega) S1.out r1 r2 (by omega) hsz
            go_upto_region 41 with (go_at_fn 166; refine hc1.mono ?_; rintro e' W1 ⟨rfl, d1, S1', HR1⟩)
            have HT : Aside (Turned (ltOf cf) d a m b s e d1) := HC.out.turned swo hb SLf.out SRt.out (permIn_mono _ _ _ _ _ _ has heb (by omega) HR1.out.perm) HR1.out.get
            clear hc1
            have l12 := HT.out.l1
            have l22 := HT.out.l2
            have r12 := HT.out.r1
            have r22 := HT.out.r2
            rw [HSE.out] at l22 r12
            have Q1 : Hid _ := l12
            have Q2 : Hid _ := l22
            have Q3 : Hid _ := r12
            have Q4 : Hid _ := r22
            clear l12 l22 r12 r22
            have ZS : Hid (d1.size = d.size) := HT.out.perm.1
            by_cases c2 : a < s ∧ s < mid
            · have t5 : (a : Int) < (s : Int) := by omega
              have t6 : (s : Int) < (mid : Int) := by omega
              have hc2 := IH.out blk off cap a s mid d0 d1 w0 W1 R (by have := ZS.out; omega) S1'.out (by omega) c2.1 c2.2 (by have := ZS.out; omega) (by have := ZS.out; omega) Q1.out Q2.out
              rw [ZS.out] at hc2
              go_upto_region 43 with (go_at_fn 162; refine hc2.mono ?_; rintro e' W2 ⟨rfl, d2, S2, HP2⟩)
              by_cases c3 : mid < e ∧ e < b
              · have t7 : (mid : Int) < (e : Int) := by omega
                have t8 : (e : Int) < (b : Int) := by omega
                have zs2 : d2.size = d.size := by first | rfl | exact HP2.out.1.1 | exact HP2.out.1.1.trans ZS.out
                have hc3 := IH.out blk off cap mid e b d0 d2 w0 W2 R (by omega) S2.out (by omega) c3.1 c3.2 (by omega) (by omega) (SortedIn.same Q3.out fun u q1 q2 => HP2.out.1.2.1 u (.inr q1)) (SortedIn.same Q4.out fun u q1 q2 => HP2.out.1.2.1 u (.inr (by omega)))
                rw [zs2] at hc3
                go_wp2_with (go_at_fn 162; refine hc3.mono ?_; rintro e' w' ⟨rfl, d3, S3, HP3⟩)
                have P3 := HP3.out
                have hw := HT.out.whole hb (by rw [HSE.out]; omega) (by rw [HSE.out]; omega) (by rw [HSE.out]; exact HP2.out.1) (by rw [HSE.out]; exact HP2.out.2) (by rw [HSE.out]; exact P3.1) (by rw [HSE.out]; exact P3.2)
                go_end0
                exact ⟨rfl, d3, S3, hw⟩
              · have P3 : Merged d2 mid b d2 := ⟨permIn_refl _ _ _, by
                  have g3 : SortedIn (ltOf cf) mid e d2 := SortedIn.same Q3.out fun u q1 q2 => HP2.out.1.2.1 u (.inr q1)
                  have g4 : SortedIn (ltOf cf) e b d2 := SortedIn.same Q4.out fun u q1 q2 => HP2.out.1.2.1 u (.inr (by have := HSE.out; omega))
                  by_cases g : mid < e
                  · obtain rfl : e = b := by omega
                    exact g3
                  · obtain rfl : mid = e := by have := HSE.out; omega
                    exact g4⟩
                have hw := HT.out.whole hb (by rw [HSE.out]; omega) (by rw [HSE.out]; omega) (by rw [HSE.out]; exact HP2.out.1) (by rw [HSE.out]; exact HP2.out.2) (by rw [HSE.out]; exact P3.1) (by rw [HSE.out]; exact P3.2)
                by_cases g : mid < e
                · have t7 : (mid : Int) < (e : Int) := by omega
                  have t8 : ¬ (e : Int) < (b : Int) := by omega
                  go_wp2
                  go_end0
                  exact ⟨rfl, d2, S2, hw⟩
                · have t7 : ¬ (mid : Int) < (e : Int) := by omega
                  go_wp2
                  go_end0
                  exact ⟨rfl, d2, S2, hw⟩
            · have HP2 : Hid (Merged d1 a mid d1) := ⟨permIn_refl _ _ _, by
                by_cases g : a < s
                · obtain rfl : s = mid := by have := HSE.out; omega
                  exact Q1.out
                · obtain rfl : s = a := by omega
                  exact Q2.out⟩
              by_cases g : a < s
              · have t5 : (a : Int) < (s : Int) := by omega
                have t6 : ¬ (s : Int) < (mid : Int) := by omega
                go_upto_region 43 with fail
                by_cases c3 : mid < e ∧ e < b
                · have t7 : (mid : Int) < (e : Int) := by omega
                  have t8 : (e : Int) < (b : Int) := by omega
                  have zs2 : d1.size = d.size := by first | rfl | exact HP2.out.1.1 | exact HP2.out.1.1.trans ZS.out
                  have hc3 := IH.out blk off cap mid e b d0 d1 w0 W1 R (by omega) S1'.out (by omega) c3.1 c3.2 (by omega) (by omega) (SortedIn.same Q3.out fun u q1 q2 => HP2.out.1.2.1 u (.inr q1)) (SortedIn.same Q4.out fun u q1 q2 => HP2.out.1.2.1 u (.inr (by omega)))
                  rw [zs2] at hc3
                  go_wp2_with (go_at_fn 162; refine hc3.mono ?_; rintro e' w' ⟨rfl, d3, S3, HP3⟩)
                  have P3 := HP3.out
                  have hw := HT.out.whole hb (by rw [HSE.out]; omega) (by rw [HSE.out]; omega) (by rw [HSE.out]; exact HP2.out.1) (by rw [HSE.out]; exact HP2.out.2) (by rw [HSE.out]; exact P3.1) (by rw [HSE.out]; exact P3.2)
                  go_end0
                  exact ⟨rfl, d3, S3, hw⟩
                · have P3 : Merged d1 mid b d1 := ⟨permIn_refl _ _ _, by
                    have g3 : SortedIn (ltOf cf) mid e d1 := SortedIn.same Q3.out fun u q1 q2 => HP2.out.1.2.1 u (.inr q1)
                    have g4 : SortedIn (ltOf cf) e b d1 := SortedIn.same Q4.out fun u q1 q2 => HP2.out.1.2.1 u (.inr (by have := HSE.out; omega))
                    by_cases g : mid < e
                    · obtain rfl : e = b := by omega
                      exact g3
                    · obtain rfl : mid = e := by have := HSE.out; omega
                      exact g4⟩
                  have hw := HT.out.whole hb (by rw [HSE.out]; omega) (by rw [HSE.out]; omega) (by rw [HSE.out]; exact HP2.out.1) (by rw [HSE.out]; exact HP2.out.2) (by rw [HSE.out]; exact P3.1) (by rw [HSE.out]; exact P3.2)
                  by_cases g : mid < e
                  · have t7 : (mid : Int) < (e : Int) := by omega
                    have t8 : ¬ (e : Int) < (b : Int) := by omega
                    go_wp2
                    go_end0
                    exact ⟨rfl, d1, S1', hw⟩
                  · have t7 : ¬ (mid : Int) < (e : Int) := by omega
                    go_wp2
                    go_end0
                    exact ⟨rfl, d1, S1', hw⟩
              · have t5 : ¬ (a : Int) < (s : Int) := by omega
                go_upto_region 43 with fail
                by_cases c3 : mid < e ∧ e < b
                · have t7 : (mid : Int) < (e : Int) := by omega
                  have t8 : (e : Int) < (b : Int) := by omega
                  have zs2 : d1.size = d.size := by first | rfl | exact HP2.out.1.1 | exact HP2.out.1.1.trans ZS.out
                  have hc3 := IH.out blk off cap mid e b d0 d1 w0 W1 R (by omega) S1'.out (by omega) c3.1 c3.2 (by omega) (by omega) (SortedIn.same Q3.out fun u q1 q2 => HP2.out.1.2.1 u (.inr q1)) (SortedIn.same Q4.out fun u q1 q2 => HP2.out.1.2.1 u (.inr (by omega)))
                  rw [zs2] at hc3
                  go_wp2_with (go_at_fn 162; refine hc3.mono ?_; rintro e' w' ⟨rfl, d3, S3, HP3⟩)
                  have P3 := HP3.out
                  have hw := HT.out.whole hb (by rw [HSE.out]; omega) (by rw [HSE.out]; omega) (by rw [HSE.out]; exact HP2.out.1) (by rw [HSE.out]; exact HP2.out.2) (by rw [HSE.out]; exact P3.1) (by rw [HSE.out]; exact P3.2)
                  go_end0
                  exact ⟨rfl, d3, S3, hw⟩
                · have P3 : Merged d1 mid b d1 := ⟨permIn_refl _ _ _, by
                    have g3 : SortedIn (ltOf cf) mid e d1 := SortedIn.same Q3.out fun u q1 q2 => HP2.out.1.2.1 u (.inr q1)
                    have g4 : SortedIn (ltOf cf) e b d1 := SortedIn.same Q4.out fun u q1 q2 => HP2.out.1.2.1 u (.inr (by have := HSE.out; omega))
                    by_cases g : mid < e
                    · obtain rfl : e = b := by omega
                      exact g3
                    · obtain rfl : mid = e := by have := HSE.out; omega
                      exact g4⟩
                  have hw := HT.out.whole hb (by rw [HSE.out]; omega) (by rw [HSE.out]; omega) (by rw [HSE.out]; exact HP2.out.1) (by rw [HSE.out]; exact HP2.out.2) (by rw [HSE.out]; exact P3.1) (by rw [HSE.out]; exact P3.2)
                  by_cases g : mid < e
                  · have t7 : (mid : Int) < (e : Int) := by omega
                    have t8 : ¬ (e : Int) < (b : Int) := by omega
                    go_wp2
                    go_end0
                    exact ⟨rfl, d1, S1', hw⟩
                  · have t7 : ¬ (mid : Int) < (e : Int) := by omega
                    go_wp2
                    go_end0
                    exact ⟨rfl, d1, S1', hw⟩
          · have t4 : ¬ (m : Int) < (e : Int) := by omega
            have HT : Aside (Turned (ltOf cf) d a m b s e d) := HC.out.still swo hb SLf.out SRt.out (.inr (by omega))
            go_upto_region 41 with fail
            have l12 := HT.out.l1
            have l22 := HT.out.l2
            have r12 := HT.out.r1
            have r22 := HT.out.r2
            rw [HSE.out] at l22 r12
            have Q1 : Hid _ := l12
            have Q2 : Hid _ := l22
            have Q3 : Hid _ := r12
            have Q4 : Hid _ := r22
            clear l12 l22 r12 r22
            have ZS : Hid (d.size = d.size) := HT.out.perm.1
            by_cases c2 : a < s ∧ s < mid
            · have t5 : (a : Int) < (s : Int) := by omega
              have t6 : (s : Int) < (mid : Int) := by omega
              have hc2 := IH.out blk off cap a s mid d0 d w0 wr R (by have := ZS.out; omega) S1.out (by omega) c2.1 c2.2 (by have := ZS.out; omega) (by have := ZS.out; omega) Q1.out Q2.out
              rw [ZS.out] at hc2
              go_upto_region 43 with (go_at_fn 162; refine hc2.mono ?_; rintro e' W2 ⟨rfl, d2, S2, HP2⟩)
              by_cases c3 : mid < e ∧ e < b
              · have t7 : (mid : Int) < (e : Int) := by omega
                have t8 : (e : Int) < (b : Int) := by omega
                have zs2 : d2.size = d.size := by first | rfl | exact HP2.out.1.1 | exact HP2.out.1.1.trans ZS.out
                have hc3 := IH.out blk off cap mid e b d0 d2 w0 W2 R (by omega) S2.out (by omega) c3.1 c3.2 (by omega) (by omega) (SortedIn.same Q3.out fun u q1 q2 => HP2.out.1.2.1 u (.inr q1)) (SortedIn.same Q4.out fun u q1 q2 => HP2.out.1.2.1 u (.inr (by omega)))
                rw [zs2] at hc3
                go_wp2_with (go_at_fn 162; refine hc3.mono ?_; rintro e' w' ⟨rfl, d3, S3, HP3⟩)
                have P3 := HP3.out
                have hw := HT.out.whole hb (by rw [HSE.out]; omega) (by rw [HSE.out]; omega) (by rw [HSE.out]; exact HP2.out.1) (by rw [HSE.out]; exact HP2.out.2) (by rw [HSE.out]; exact P3.1) (by rw [HSE.out]; exact P3.2)
                go_end0
                exact ⟨rfl, d3, S3, hw⟩
              · have P3 : Merged d2 mid b d2 := ⟨permIn_refl _ _ _, by
                  have g3 : SortedIn (ltOf cf) mid e d2 := SortedIn.same Q3.out fun u q1 q2 => HP2.out.1.2.1 u (.inr q1)
                  have g4 : SortedIn (ltOf cf) e b d2 := SortedIn.same Q4.out fun u q1 q2 => HP2.out.1.2.1 u (.inr (by have := HSE.out; omega))
                  by_cases g : mid < e
                  · obtain rfl : e = b := by omega
                    exact g3
                  · obtain rfl : mid = e := by have := HSE.out; omega
                    exact g4⟩
                have hw := HT.out.whole hb (by rw [HSE.out]; omega) (by rw [HSE.out]; omega) (by rw [HSE.out]; exact HP2.out.1) (by rw [HSE.out]; exact HP2.out.2) (by rw [HSE.out]; exact P3.1) (by rw [HSE.out]; exact P3.2)
                by_cases g : mid < e
                · have t7 : (mid : Int) < (e : Int) := by omega
                  have t8 : ¬ (e : Int) < (b : Int) := by omega
                  go_wp2
                  go_end0
                  exact ⟨rfl, d2, S2, hw⟩
                · have t7 : ¬ (mid : Int) < (e : Int) := by omega
                  go_wp2
                  go_end0
                  exact ⟨rfl, d2, S2, hw⟩
            · have HP2 : Hid (Merged d a mid d) := ⟨permIn_refl _ _ _, by
                by_cases g : a < s
                · obtain rfl : s = mid := by have := HSE.out; omega
                  exact Q1.out
                · obtain rfl : s = a := by omega
                  exact Q2.out⟩
              by_cases g : a < s
              · have t5 : (a : Int) < (s : Int) := by omega
                have t6 : ¬ (s : Int) < (mid : Int) := by omega
                go_upto_region 43 with fail
                by_cases c3 : mid < e ∧ e < b
                · have t7 : (mid : Int) < (e : Int) := by omega
                  have t8 : (e : Int) < (b : Int) := by omega
                  have zs2 : d.size = d.size := by first | rfl | exact HP2.out.1.1 | exact HP2.out.1.1.trans ZS.out
                  have hc3 := IH.out blk off cap mid e b d0 d w0 wr R (by omega) S1.out (by omega) c3.1 c3.2 (by omega) (by omega) (SortedIn.same Q3.out fun u q1 q2 => HP2.out.1.2.1 u (.inr q1)) (SortedIn.same Q4.out fun u q1 q2 => HP2.out.1.2.1 u (.inr (by omega)))
                  rw [zs2] at hc3
                  go_wp2_with (go_at_fn 162; refine hc3.mono ?_; rintro e' w' ⟨rfl, d3, S3, HP3⟩)
                  have P3 := HP3.out
                  have hw := HT.out.whole hb (by rw [HSE.out]; omega) (by rw [HSE.out]; omega) (by rw [HSE.out]; exact HP2.out.1) (by rw [HSE.out]; exact HP2.out.2) (by rw [HSE.out]; exact P3.1) (by rw [HSE.out]; exact P3.2)
                  go_end0
                  exact ⟨rfl, d3, S3, hw⟩
                · have P3 : Merged d mid b d := ⟨permIn_refl _ _ _, by
                    have g3 : SortedIn (ltOf cf) mid e d := SortedIn.same Q3.out fun u q1 q2 => HP2.out.1.2.1 u (.inr q1)
                    have g4 : SortedIn (ltOf cf) e b d := SortedIn.same Q4.out fun u q1 q2 => HP2.out.1.2.1 u (.inr (by have := HSE.out; omega))
                    by_cases g : mid < e
                    · obtain rfl : e = b := by omega
                      exact g3
                    · obtain rfl : mid = e := by have := HSE.out; omega
                      exact g4⟩
                  have hw := HT.out.whole hb (by rw [HSE.out]; omega) (by rw [HSE.out]; omega) (by rw [HSE.out]; exact HP2.out.1) (by rw [HSE.out]; exact HP2.out.2) (by rw [HSE.out]; exact P3.1) (by rw [HSE.out]; exact P3.2)
                  by_cases g : mid < e
                  · have t7 : (mid : Int) < (e : Int) := by omega
                    have t8 : ¬ (e : Int) < (b : Int) := by omega
                    go_wp2
                    go_end0
                    exact ⟨rfl, d, S1, hw⟩
                  · have t7 : ¬ (mid : Int) < (e : Int) := by omega
                    go_wp2
                    go_end0
                    exact ⟨rfl, d, S1, hw⟩
              · have t5 : ¬ (a : Int) < (s : Int) := by omega
                go_upto_region 43 with fail
                by_cases c3 : mid < e ∧ e < b
                · have t7 : (mid : Int) < (e : Int) := by omega
                  have t8 : (e : Int) < (b : Int) := by omega
                  have zs2 : d.size = d.size := by first | rfl | exact HP2.out.1.1 | exact HP2.out.1.1.trans ZS.out
                  have hc3 := IH.out blk off cap mid e b d0 d w0 wr R (by omega) S1.out (by omega) c3.1 c3.2 (by omega) (by omega) (SortedIn.same Q3.out fun u q1 q2 => HP2.out.1.2.1 u (.inr q1)) (SortedIn.same Q4.out fun u q1 q2 => HP2.out.1.2.1 u (.inr (by omega)))
                  rw [zs2] at hc3
                  go_wp2_with (go_at_fn 162; refine hc3.mono ?_; rintro e' w' ⟨rfl, d3, S3, HP3⟩)
                  have P3 := HP3.out
                  have hw := HT.out.whole hb (by rw [HSE.out]; omega) (by rw [HSE.out]; omega) (by rw [HSE.out]; exact HP2.out.1) (by rw [HSE.out]; exact HP2.out.2) (by rw [HSE.out]; exact P3.1) (by rw [HSE.out]; exact P3.2)
                  go_end0
                  exact ⟨rfl, d3, S3, hw⟩
                · have P3 : Merged d mid b d := ⟨permIn_refl _ _ _, by
                    have g3 : SortedIn (ltOf cf) mid e d := SortedIn.same Q3.out fun u q1 q2 => HP2.out.1.2.1 u (.inr q1)
                    have g4 : SortedIn (ltOf cf) e b d := SortedIn.same Q4.out fun u q1 q2 => HP2.out.1.2.1 u (.inr (by have := HSE.out; omega))
                    by_cases g : mid < e
                    · obtain rfl : e = b := by omega
                      exact g3
                    · obtain rfl : mid = e := by have := HSE.out; omega
                      exact g4⟩
                  have hw := HT.out.whole hb (by rw [HSE.out]; omega) (by rw [HSE.out]; omega) (by rw [HSE.out]; exact HP2.out.1) (by rw [HSE.out]; exact HP2.out.2) (by rw [HSE.out]; exact P3.1) (by rw [HSE.out]; exact P3.2)
                  by_cases g : mid < e
                  · have t7 : (mid : Int) < (e : Int) := by omega
                    have t8 : ¬ (e : Int) < (b : Int) := by omega
                    go_wp2
                    go_end0
                    exact ⟨rfl, d, S1, hw⟩
                  · have t7 : ¬ (mid : Int) < (e : Int) := by omega
                    go_wp2
                    go_end0
                    exact ⟨rfl, d, S1, hw⟩
        · have t3 : ¬ (s : Int) < (m : Int) := by omega
          have HT : Aside (Turned (ltOf cf) d a m b s e d) := HC.out.still swo hb SLf.out SRt.out (.inl (by omega))
          go_upto_region 41 with fail
          have l12 := HT.out.l1
          have l22 := HT.out.l2
          have r12 := HT.out.r1
          have r22 := HT.out.r2
          rw [HSE.out] at l22 r12
          have Q1 : Hid _ := l12
          have Q2 : Hid _ := l22
          have Q3 : Hid _ := r12
          have Q4 : Hid _ := r22
          clear l12 l22 r12 r22
          have ZS : Hid (d.size = d.size) := HT.out.perm.1
          by_cases c2 : a < s ∧ s < mid
          · have t5 : (a : Int) < (s : Int) := by omega
            have t6 : (s : Int) < (mid : Int) := by omega
            have hc2 := IH.out blk off cap a s mid d0 d w0 wr R (by have := ZS.out; omega) S1.out (by omega) c2.1 c2.2 (by have := ZS.out; omega) (by have := ZS.out; omega) Q1.out Q2.out
            rw [ZS.out] at hc2
            go_upto_region 43 with (go_at_fn 162; refine hc2.mono ?_; rintro e' W2 ⟨rfl, d2, S2, HP2⟩)
            by_cases c3 : mid < e ∧ e < b
            · have t7 : (mid : Int) < (e : Int) := by omega
              have t8 : (e : Int) < (b : Int) := by omega
              have zs2 : d2.size = d.size := by first | rfl | exact HP2.out.1.1 | exact HP2.out.1.1.trans ZS.out
              have hc3 := IH.out blk off cap mid e b d0 d2 w0 W2 R (by omega) S2.out (by omega) c3.1 c3.2 (by omega) (by omega) (SortedIn.same Q3.out fun u q1 q2 => HP2.out.1.2.1 u (.inr q1)) (SortedIn.same Q4.out fun u q1 q2 => HP2.out.1.2.1 u (.inr (by omega)))
              rw [zs2] at hc3
              go_wp2_with (go_at_fn 162; refine hc3.mono ?_; rintro e' w' ⟨rfl, d3, S3, HP3⟩)
              have P3 := HP3.out
              have hw := HT.out.whole hb (by rw [HSE.out]; omega) (by rw [HSE.out]; omega) (by rw [HSE.out]; exact HP2.out.1) (by rw [HSE.out]; exact HP2.out.2) (by rw [HSE.out]; exact P3.1) (by rw [HSE.out]; exact P3.2)
              go_end0
              exact ⟨rfl, d3, S3, hw⟩
            · have P3 : Merged d2 mid b d2 := ⟨permIn_refl _ _ _, by
                have g3 : SortedIn (ltOf cf) mid e d2 := SortedIn.same Q3.out fun u q1 q2 => HP2.out.1.2.1 u (.inr q1)
                have g4 : SortedIn (ltOf cf) e b d2 := SortedIn.same Q4.out fun u q1 q2 => HP2.out.1.2.1 u (.inr (by have := HSE.out; omega))
                by_cases g : mid < e
                · obtain rfl : e = b := by omega
                  exact g3
                · obtain rfl : mid = e := by have := HSE.out; omega
                  exact g4⟩
              have hw := HT.out.whole hb (by rw [HSE.out]; omega) (by rw [HSE.out]; omega) (by rw [HSE.out]; exact HP2.out.1) (by rw [HSE.out]; exact HP2.out.2) (by rw [HSE.out]; exact P3.1) (by rw [HSE.out]; exact P3.2)
              by_cases g : mid < e
              · have t7 : (mid : Int) < (e : Int) := by omega
                have t8 : ¬ (e : Int) < (b : Int) := by omega
                go_wp2
                go_end0
                exact ⟨rfl, d2, S2, hw⟩
              · have t7 : ¬ (mid : Int) < (e : Int) := by omega
                go_wp2
                go_end0
                exact ⟨rfl, d2, S2, hw⟩
          · have HP2 : Hid (Merged d a mid d) := ⟨permIn_refl _ _ _, by
              by_cases g : a < s
              · obtain rfl : s = mid := by have := HSE.out; omega
                exact Q1.out
              · obtain rfl : s = a := by omega
                exact Q2.out⟩
            by_cases g : a < s
            · have t5 : (a : Int) < (s : Int) := by omega
              have t6 : ¬ (s : Int) < (mid : Int) := by omega
              go_upto_region 43 with fail
              by_cases c3 : mid < e ∧ e < b
              · have t7 : (mid : Int) < (e : Int) := by omega
                have t8 : (e : Int) < (b : Int) := by omega
                have zs2 : d.size = d.size := by first | rfl | exact HP2.out.1.1 | exact HP2.out.1.1.trans ZS.out
                have hc3 := IH.out blk off cap mid e b d0 d w0 wr R (by omega) S1.out (by omega) c3.1 c3.2 (by omega) (by omega) (SortedIn.same Q3.out fun u q1 q2 => HP2.out.1.2.1 u (.inr q1)) (SortedIn.same Q4.out fun u q1 q2 => HP2.out.1.2.1 u (.inr (by omega)))
                rw [zs2] at hc3
                go_wp2_with (go_at_fn 162; refine hc3.mono ?_; rintro e' w' ⟨rfl, d3, S3, HP3⟩)
                have P3 := HP3.out
                have hw := HT.out.whole hb (by rw [HSE.out]; omega) (by rw [HSE.out]; omega) (by rw [HSE.out]; exact HP2.out.1) (by rw [HSE.out]; exact HP2.out.2) (by rw [HSE.out]; exact P3.1) (by rw [HSE.out]; exact P3.2)
                go_end0
                exact ⟨rfl, d3, S3, hw⟩
              · have P3 : Merged d mid b d := ⟨permIn_refl _ _ _, by
                  have g3 : SortedIn (ltOf cf) mid e d := SortedIn.same Q3.out fun u q1 q2 => HP2.out.1.2.1 u (.inr q1)
                  have g4 : SortedIn (ltOf cf) e b d := SortedIn.same Q4.out fun u q1 q2 => HP2.out.1.2.1 u (.inr (by have := HSE.out; omega))
                  by_cases g : mid < e
                  · obtain rfl : e = b := by omega
                    exact g3
                  · obtain rfl : mid = e := by have := HSE.out; omega
                    exact g4⟩
                have hw := HT.out.whole hb (by rw [HSE.out]; omega) (by rw [HSE.out]; omega) (by rw [HSE.out]; exact HP2.out.1) (by rw [HSE.out]; exact HP2.out.2) (by rw [HSE.out]; exact P3.1) (by rw [HSE.out]; exact P3.2)
                by_cases g : mid < e
                · have t7 : (mid : Int) < (e : Int) := by omega
                  have t8 : ¬ (e : Int) < (b : Int) := by omega
                  go_wp2
                  go_end0
                  exact ⟨rfl, d, S1, hw⟩
                · have t7 : ¬ (mid : Int) < (e : Int) := by omega
                  go_wp2
                  go_end0
                  exact ⟨rfl, d, S1, hw⟩
            · have t5 : ¬ (a : Int) < (s : Int) := by omega
              go_upto_region 43 with fail
              by_cases c3 : mid < e ∧ e < b
              · have t7 : (mid : Int) < (e : Int) := by omega
                have t8 : (e : Int) < (b : Int) := by omega
                have zs2 : d.size = d.size := by first | rfl | exact HP2.out.1.1 | exact HP2.out.1.1.trans ZS.out
                have hc3 := IH.out blk off cap mid e b d0 d w0 wr R (by omega) S1.out (by omega) c3.1 c3.2 (by omega) (by omega) (SortedIn.same Q3.out fun u q1 q2 => HP2.out.1.2.1 u (.inr q1)) (SortedIn.same Q4.out fun u q1 q2 => HP2.out.1.2.1 u (.inr (by omega)))
                rw [zs2] at hc3
                go_wp2_with (go_at_fn 162; refine hc3.mono ?_; rintro e' w' ⟨rfl, d3, S3, HP3⟩)
                have P3 := HP3.out
                have hw := HT.out.whole hb (by rw [HSE.out]; omega) (by rw [HSE.out]; omega) (by rw [HSE.out]; exact HP2.out.1) (by rw [HSE.out]; exact HP2.out.2) (by rw [HSE.out]; exact P3.1) (by rw [HSE.out]; exact P3.2)
                go_end0
                exact ⟨rfl, d3, S3, hw⟩
              · have P3 : Merged d mid b d := ⟨permIn_refl _ _ _, by
                  have g3 : SortedIn (ltOf cf) mid e d := SortedIn.same Q3.out fun u q1 q2 => HP2.out.1.2.1 u (.inr q1)
                  have g4 : SortedIn (ltOf cf) e b d := SortedIn.same Q4.out fun u q1 q2 => HP2.out.1.2.1 u (.inr (by have := HSE.out; omega))
                  by_cases g : mid < e
                  · obtain rfl : e = b := by omega
                    exact g3
                  · obtain rfl : mid = e := by have := HSE.out; omega
                    exact g4⟩
                have hw := HT.out.whole hb (by rw [HSE.out]; omega) (by rw [HSE.out]; omega) (by rw [HSE.out]; exact HP2.out.1) (by rw [HSE.out]; exact HP2.out.2) (by rw [HSE.out]; exact P3.1) (by rw [HSE.out]; exact P3.2)
                by_cases g : mid < e
                · have t7 : (mid : Int) < (e : Int) := by omega
                  have t8 : ¬ (e : Int) < (b : Int) := by omega
                  go_wp2
                  go_end0
                  exact ⟨rfl, d, S1, hw⟩
                · have t7 : ¬ (mid : Int) < (e : Int) := by omega
                  go_wp2
                  go_end0
                  exact ⟨rfl, d, S1, hw⟩
  · have t2 : ¬ (mid : Int) < (m : Int) := by omega
    have V2 : Hid (Lo = a) := v2
    have V3 : Hid (Up = m) := v3
    clear v2 v3
    go_enter L.fM, Try.ntmps162
    go_wp2
    go_loopg [20, 21] (Up - Lo) (fun kx s20 s21 wr => ∃ (s r : Nat), s20 = .int .i64 s ∧ s21 = .int .i64 r ∧ r - s ≤ kx ∧ Lo ≤ s ∧ s ≤ r ∧ r ≤ Up ∧ Aside (SWK enc k w0 blk off d wr) ∧ Hid (s = Lo ∨ ltOf cf d[n - s]! d[s - 1]! = false) ∧ Hid (r = Up ∨ ltOf cf d[p - r]! d[r]! = true))
    case atStart => exact ⟨Lo, Up, by have := V2.out; first | rfl | (congr 1; omega), by have := V3.out; first | rfl | (congr 1; omega), Nat.le_refl _, Nat.le_refl _, u2, Nat.le_refl _, S0, (show Hid _ from .inl rfl), (show Hid _ from .inl rfl)⟩
    case round =>
      obtain ⟨s, r, rfl, rfl, hkx, hls, hsr, hru, S1, I1, I2⟩ := hrel
      clear S0
      by_cases hlt : s < r
      · have hltz : (s : Int) < (r : Int) := by omega
        obtain ⟨c, hc⟩ : ∃ c : Nat, (s + r) / 2 = c := ⟨_, rfl⟩
        have qc0 : IntKind.u64.wrap ((s : Int) + (r : Int)) = (s : Int) + (r : Int) := by rw [IntKind.wrap_u64]; omega
        have qc1 : ((s : Int) + (r : Int)) / 2 = (c : Int) := by omega
        have qc2 : IntKind.i64.wrap (c : Int) = (c : Int) := by rw [IntKind.wrap_i64]; omega
        have z1 : (c : Int) < (d.size : Int) := by omega
        have z1n : c < d.size := by omega
        have hpn : p + 1 = n := HMID.out.2.2.symm
        obtain ⟨u, hu⟩ : ∃ u, p - c = u := ⟨_, rfl⟩
        have ru : IntKind.i64.wrap ((p : Int) - (c : Int)) = (u : Int) := by rw [IntKind.wrap_i64]; omega
        have z2 : (u : Int) < (d.size : Int) := by omega
        have z2n : u < d.size := by omega
        have HU : Hid (p - c = u) := hu
        have hun : n - (c + 1) = u := by omega
        have HUN : Hid (n - (c + 1) = u) := hun
        clear hu hun hpn
        cases hL : ltOf cf d[u]! d[c]! with
        | true =>
          obtain ⟨x1, hx1⟩ : ∃ x, x = d[u]! := ⟨_, rfl⟩
          obtain ⟨y1, hy1⟩ : ∃ x, x = d[c]! := ⟨_, rfl⟩
          have l1a := S1.out.ld R (by omega) P (u) (by omega)
          have l1b := S1.out.ld R (by omega) P (c) (by omega)
          rw [← hx1] at l1a
          rw [← hy1] at l1b
          have hc1 := S1.out.cmp (L.cmp blk off d.size w0) rfl x1 y1
          have hv1 : cf x1 y1 < 0 := by rw [hx1, hy1]; exact of_decide_eq_true hL
          have hd1 : decide (cf x1 y1 < 0) = true := decide_eq_true hv1
          have nx1 := R.hk x1
          have ny1 := R.hk y1
          clear hx1 hy1
          go_wp2_with fail
          go_quiet_grown (first | (go_at_fn byN; refine Calls.grown_of (hc1 _ _)))
          have S2 : Aside (SWK enc k w0 blk off d (grow (wr.drewN nq) osq)) := S1.out.grown nq osq
          clear l1a l1b hc1 S1
          generalize grow (wr.drewN nq) osq = w2 at S2 ⊢
          clear nq osq
          go_wp2
          go_roundg (c - s)
          case measure => omega
          case rel => exact ⟨s, c, rfl, rfl, Nat.le_refl _, hls, by omega, by omega, S2, I1, (show Hid _ from .inr (by rw [HU.out]; exact hL))⟩
        | false =>
          obtain ⟨x1, hx1⟩ : ∃ x, x = d[u]! := ⟨_, rfl⟩
          obtain ⟨y1, hy1⟩ : ∃ x, x = d[c]! := ⟨_, rfl⟩
          have l1a := S1.out.ld R (by omega) P (u) (by omega)
          have l1b := S1.out.ld R (by omega) P (c) (by omega)
          rw [← hx1] at l1a
          rw [← hy1] at l1b
          have hc1 := S1.out.cmp (L.cmp blk off d.size w0) rfl x1 y1
          have hv1 : ¬ cf x1 y1 < 0 := by rw [hx1, hy1]; exact of_decide_eq_false hL
          have hd1 : decide (cf x1 y1 < 0) = false := decide_eq_false hv1
          have nx1 := R.hk x1
          have ny1 := R.hk y1
          clear hx1 hy1
          go_wp2_with fail
          go_quiet_grown (first | (go_at_fn byN; refine Calls.grown_of (hc1 _ _)))
          have S2 : Aside (SWK enc k w0 blk off d (grow (wr.drewN nq) osq)) := S1.out.grown nq osq
          clear l1a l1b hc1 S1
          generalize grow (wr.drewN nq) osq = w2 at S2 ⊢
          clear nq osq
          go_wp2
          go_roundg (r - (c + 1))
          case measure => omega
          case rel => exact ⟨c + 1, r, by go_num, rfl, Nat.le_refl _, by omega, by omega, hru, S2, (show Hid _ from .inr (by rw [HUN.out]; exact hL)), I2⟩
      · have hltz : ¬ (s : Int) < (r : Int) := by omega
        obtain rfl : s = r := by omega
        obtain ⟨e, he⟩ : ∃ e, n - s = e := ⟨_, rfl⟩
        have ee : (n : Int) - (s : Int) = (e : Int) := by omega
        have hme : m ≤ e := by omega
        have heb : e ≤ b := by omega
        have HC : Hid (Cut (ltOf cf) d a m b s e) := ⟨by omega, by omega, hme, heb, by
          rcases I1.out with h | h
          · rcases U78.out.1 with q | q
            · left; omega
            · right; left; omega
          · right; right; rw [he] at h; exact h, by
          rcases I2.out with h | h
          · rcases U78.out.2 with q | q
            · left; omega
            · right; left; omega
          · right; right
            have hpn := HMID.out.2.2
            rw [show p - s = e - 1 by omega] at h
            exact h⟩
        have hse : s + (e - m) = mid := by have := HMID.out; omega
        have HSE : Hid (s + (e - m) = mid) := hse
        have has : a ≤ s := by omega
        have hsm : s ≤ m := by omega
        have HE : Hid (n - s = e) := he
        clear he hse
        by_cases r1 : s < m
        · have t3 : (s : Int) < (m : Int) := by omega
          by_cases r2 : m < e
          · have t4 : (m : Int) < (e : Int) := by omega
            have hc1 := rotate_calls L blk off cap s m e d0 d w0 wr R (by omega) S1.out r1 r2 (by omega) hsz
            go_upto_region 41 with (go_at_fn 166; refine hc1.mono ?_; rintro e' W1 ⟨rfl, d1, S1', HR1⟩)
            have HT : Aside (Turned (ltOf cf) d a m b s e d1) := HC.out.turned swo hb SLf.out SRt.out (permIn_mono _ _ _ _ _ _ has heb (by omega) HR1.out.perm) HR1.out.get
            clear hc1
            have l12 := HT.out.l1
            have l22 := HT.out.l2
            have r12 := HT.out.r1
            have r22 := HT.out.r2
            rw [HSE.out] at l22 r12
            have Q1 : Hid _ := l12
            have Q2 : Hid _ := l22
            have Q3 : Hid _ := r12
            have Q4 : Hid _ := r22
            clear l12 l22 r12 r22
            have ZS : Hid (d1.size = d.size) := HT.out.perm.1
            by_cases c2 : a < s ∧ s < mid
            · have t5 : (a : Int) < (s : Int) := by omega
              have t6 : (s : Int) < (mid : Int) := by omega
              have hc2 := IH.out blk off cap a s mid d0 d1 w0 W1 R (by have := ZS.out; omega) S1'.out (by omega) c2.1 c2.2 (by have := ZS.out; omega) (by have := ZS.out; omega) Q1.out Q2.out
              rw [ZS.out] at hc2
              go_upto_region 43 with (go_at_fn 162; refine hc2.mono ?_; rintro e' W2 ⟨rfl, d2, S2, HP2⟩)
              by_cases c3 : mid < e ∧ e < b
              · have t7 : (mid : Int) < (e : Int) := by omega
                have t8 : (e : Int) < (b : Int) := by omega
                have zs2 : d2.size = d.size := by first | rfl | exact HP2.out.1.1 | exact HP2.out.1.1.trans ZS.out
                have hc3 := IH.out blk off cap mid e b d0 d2 w0 W2 R (by omega) S2.out (by omega) c3.1 c3.2 (by omega) (by omega) (SortedIn.same Q3.out fun u q1 q2 => HP2.out.1.2.1 u (.inr q1)) (SortedIn.same Q4.out fun u q1 q2 => HP2.out.1.2.1 u (.inr (by omega)))
                rw [zs2] at hc3
                go_wp2_with (go_at_fn 162; refine hc3.mono ?_; rintro e' w' ⟨rfl, d3, S3, HP3⟩)
                have P3 := HP3.out
                have hw := HT.out.whole hb (by rw [HSE.out]; omega) (by rw [HSE.out]; omega) (by rw [HSE.out]; exact HP2.out.1) (by rw [HSE.out]; exact HP2.out.2) (by rw [HSE.out]; exact P3.1) (by rw [HSE.out]; exact P3.2)
                go_end0
                exact ⟨rfl, d3, S3, hw⟩
              · have P3 : Merged d2 mid b d2 := ⟨permIn_refl _ _ _, by
                  have g3 : SortedIn (ltOf cf) mid e d2 := SortedIn.same Q3.out fun u q1 q2 => HP2.out.1.2.1 u (.inr q1)
                  have g4 : SortedIn (ltOf cf) e b d2 := SortedIn.same Q4.out fun u q1 q2 => HP2.out.1.2.1 u (.inr (by have := HSE.out; omega))
                  by_cases g : mid < e
                  · obtain rfl : e = b := by omega
                    exact g3
                  · obtain rfl : mid = e := by have := HSE.out; omega
                    exact g4⟩
                have hw := HT.out.whole hb (by rw [HSE.out]; omega) (by rw [HSE.out]; omega) (by rw [HSE.out]; exact HP2.out.1) (by rw [HSE.out]; exact HP2.out.2) (by rw [HSE.out]; exact P3.1) (by rw [HSE.out]; exact P3.2)
                by_cases g : mid < e
                · have t7 : (mid : Int) < (e : Int) := by omega
                  have t8 : ¬ (e : Int) < (b : Int) := by omega
                  go_wp2
                  go_end0
                  exact ⟨rfl, d2, S2, hw⟩
                · have t7 : ¬ (mid : Int) < (e : Int) := by omega
                  go_wp2
                  go_end0
                  exact ⟨rfl, d2, S2, hw⟩
            · have HP2 : Hid (Merged d1 a mid d1) := ⟨permIn_refl _ _ _, by
                by_cases g : a < s
                · obtain rfl : s = mid := by have := HSE.out; omega
                  exact Q1.out
                · obtain rfl : s = a := by omega
                  exact Q2.out⟩
              by_cases g : a < s
              · have t5 : (a : Int) < (s : Int) := by omega
                have t6 : ¬ (s : Int) < (mid : Int) := by omega
                go_upto_region 43 with fail
                by_cases c3 : mid < e ∧ e < b
                · have t7 : (mid : Int) < (e : Int) := by omega
                  have t8 : (e : Int) < (b : Int) := by omega
                  have zs2 : d1.size = d.size := by first | rfl | exact HP2.out.1.1 | exact HP2.out.1.1.trans ZS.out
                  have hc3 := IH.out blk off cap mid e b d0 d1 w0 W1 R (by omega) S1'.out (by omega) c3.1 c3.2 (by omega) (by omega) (SortedIn.same Q3.out fun u q1 q2 => HP2.out.1.2.1 u (.inr q1)) (SortedIn.same Q4.out fun u q1 q2 => HP2.out.1.2.1 u (.inr (by omega)))
                  rw [zs2] at hc3
                  go_wp2_with (go_at_fn 162; refine hc3.mono ?_; rintro e' w' ⟨rfl, d3, S3, HP3⟩)
                  have P3 := HP3.out
                  have hw := HT.out.whole hb (by rw [HSE.out]; omega) (by rw [HSE.out]; omega) (by rw [HSE.out]; exact HP2.out.1) (by rw [HSE.out]; exact HP2.out.2) (by rw [HSE.out]; exact P3.1) (by rw [HSE.out]; exact P3.2)
                  go_end0
                  exact ⟨rfl, d3, S3, hw⟩
                · have P3 : Merged d1 mid b d1 := ⟨permIn_refl _ _ _, by
                    have g3 : SortedIn (ltOf cf) mid e d1 := SortedIn.same Q3.out fun u q1 q2 => HP2.out.1.2.1 u (.inr q1)
                    have g4 : SortedIn (ltOf cf) e b d1 := SortedIn.same Q4.out fun u q1 q2 => HP2.out.1.2.1 u (.inr (by have := HSE.out; omega))
                    by_cases g : mid < e
                    · obtain rfl : e = b := by omega
                      exact g3
                    · obtain rfl : mid = e := by have := HSE.out; omega
                      exact g4⟩
                  have hw := HT.out.whole hb (by rw [HSE.out]; omega) (by rw [HSE.out]; omega) (by rw [HSE.out]; exact HP2.out.1) (by rw [HSE.out]; exact HP2.out.2) (by rw [HSE.out]; exact P3.1) (by rw [HSE.out]; exact P3.2)
                  by_cases g : mid < e
                  · have t7 : (mid : Int) < (e : Int) := by omega
                    have t8 : ¬ (e : Int) < (b : Int) := by omega
                    go_wp2
                    go_end0
                    exact ⟨rfl, d1, S1', hw⟩
                  · have t7 : ¬ (mid : Int) < (e : Int) := by omega
                    go_wp2
                    go_end0
                    exact ⟨rfl, d1, S1', hw⟩
              · have t5 : ¬ (a : Int) < (s : Int) := by omega
                go_upto_region 43 with fail
                by_cases c3 : mid < e ∧ e < b
                · have t7 : (mid : Int) < (e : Int) := by omega
                  have t8 : (e : Int) < (b : Int) := by omega
                  have zs2 : d1.size = d.size := by first | rfl | exact HP2.out.1.1 | exact HP2.out.1.1.trans ZS.out
                  have hc3 := IH.out blk off cap mid e b d0 d1 w0 W1 R (by omega) S1'.out (by omega) c3.1 c3.2 (by omega) (by omega) (SortedIn.same Q3.out fun u q1 q2 => HP2.out.1.2.1 u (.inr q1)) (SortedIn.same Q4.out fun u q1 q2 => HP2.out.1.2.1 u (.inr (by omega)))
                  rw [zs2] at hc3
                  go_wp2_with (go_at_fn 162; refine hc3.mono ?_; rintro e' w' ⟨rfl, d3, S3, HP3⟩)
                  have P3 := HP3.out
                  have hw := HT.out.whole hb (by rw [HSE.out]; omega) (by rw [HSE.out]; omega) (by rw [HSE.out]; exact HP2.out.1) (by rw [HSE.out]; exact HP2.out.2) (by rw [HSE.out]; exact P3.1) (by rw [HSE.out]; exact P3.2)
                  go_end0
                  exact ⟨rfl, d3, S3, hw⟩
                · have P3 : Merged d1 mid b d1 := ⟨permIn_refl _ _ _, by
                    have g3 : SortedIn (ltOf cf) mid e d1 := SortedIn.same Q3.out fun u q1 q2 => HP2.out.1.2.1 u (.inr q1)
                    have g4 : SortedIn (ltOf cf) e b d1 := SortedIn.same Q4.out fun u q1 q2 => HP2.out.1.2.1 u (.inr (by have := HSE.out; omega))
                    by_cases g : mid < e
                    · obtain rfl : e = b := by omega
                      exact g3
                    · obtain rfl : mid = e := by have := HSE.out; omega
                      exact g4⟩
                  have hw := HT.out.whole hb (by rw [HSE.out]; omega) (by rw [HSE.out]; omega) (by rw [HSE.out]; exact HP2.out.1) (by rw [HSE.out]; exact HP2.out.2) (by rw [HSE.out]; exact P3.1) (by rw [HSE.out]; exact P3.2)
                  by_cases g : mid < e
                  · have t7 : (mid : Int) < (e : Int) := by omega
                    have t8 : ¬ (e : Int) < (b : Int) := by omega
                    go_wp2
                    go_end0
                    exact ⟨rfl, d1, S1', hw⟩
                  · have t7 : ¬ (mid : Int) < (e : Int) := by omega
                    go_wp2
                    go_end0
                    exact ⟨rfl, d1, S1', hw⟩
          · have t4 : ¬ (m : Int) < (e : Int) := by omega
            have HT : Aside (Turned (ltOf cf) d a m b s e d) := HC.out.still swo hb SLf.out SRt.out (.inr (by omega))
            go_upto_region 41 with fail
            have l12 := HT.out.l1
            have l22 := HT.out.l2
            have r12 := HT.out.r1
            have r22 := HT.out.r2
            rw [HSE.out] at l22 r12
            have Q1 : Hid _ := l12
            have Q2 : Hid _ := l22
            have Q3 : Hid _ := r12
            have Q4 : Hid _ := r22
            clear l12 l22 r12 r22
            have ZS : Hid (d.size = d.size) := HT.out.perm.1
            by_cases c2 : a < s ∧ s < mid
            · have t5 : (a : Int) < (s : Int) := by omega
              have t6 : (s : Int) < (mid : Int) := by omega
              have hc2 := IH.out blk off cap a s mid d0 d w0 wr R (by have := ZS.out; omega) S1.out (by omega) c2.1 c2.2 (by have := ZS.out; omega) (by have := ZS.out; omega) Q1.out Q2.out
              rw [ZS.out] at hc2
              go_upto_region 43 with (go_at_fn 162; refine hc2.mono ?_; rintro e' W2 ⟨rfl, d2, S2, HP2⟩)
              by_cases c3 : mid < e ∧ e < b
              · have t7 : (mid : Int) < (e : Int) := by omega
                have t8 : (e : Int) < (b : Int) := by omega
                have zs2 : d2.size = d.size := by first | rfl | exact HP2.out.1.1 | exact HP2.out.1.1.trans ZS.out
                have hc3 := IH.out blk off cap mid e b d0 d2 w0 W2 R (by omega) S2.out (by omega) c3.1 c3.2 (by omega) (by omega) (SortedIn.same Q3.out fun u q1 q2 => HP2.out.1.2.1 u (.inr q1)) (SortedIn.same Q4.out fun u q1 q2 => HP2.out.1.2.1 u (.inr (by omega)))
                rw [zs2] at hc3
                go_wp2_with (go_at_fn 162; refine hc3.mono ?_; rintro e' w' ⟨rfl, d3, S3, HP3⟩)
                have P3 := HP3.out
                have hw := HT.out.whole hb (by rw [HSE.out]; omega) (by rw [HSE.out]; omega) (by rw [HSE.out]; exact HP2.out.1) (by rw [HSE.out]; exact HP2.out.2) (by rw [HSE.out]; exact P3.1) (by rw [HSE.out]; exact P3.2)
                go_end0
                exact ⟨rfl, d3, S3, hw⟩
              · have P3 : Merged d2 mid b d2 := ⟨permIn_refl _ _ _, by
                  have g3 : SortedIn (ltOf cf) mid e d2 := SortedIn.same Q3.out fun u q1 q2 => HP2.out.1.2.1 u (.inr q1)
                  have g4 : SortedIn (ltOf cf) e b d2 := SortedIn.same Q4.out fun u q1 q2 => HP2.out.1.2.1 u (.inr (by have := HSE.out; omega))
                  by_cases g : mid < e
                  · obtain rfl : e = b := by omega
                    exact g3
                  · obtain rfl : mid = e := by have := HSE.out; omega
                    exact g4⟩
                have hw := HT.out.whole hb (by rw [HSE.out]; omega) (by rw [HSE.out]; omega) (by rw [HSE.out]; exact HP2.out.1) (by rw [HSE.out]; exact HP2.out.2) (by rw [HSE.out]; exact P3.1) (by rw [HSE.out]; exact P3.2)
                by_cases g : mid < e
                · have t7 : (mid : Int) < (e : Int) := by omega
                  have t8 : ¬ (e : Int) < (b : Int) := by omega
                  go_wp2
                  go_end0
                  exact ⟨rfl, d2, S2, hw⟩
                · have t7 : ¬ (mid : Int) < (e : Int) := by omega
                  go_wp2
                  go_end0
                  exact ⟨rfl, d2, S2, hw⟩
            · have HP2 : Hid (Merged d a mid d) := ⟨permIn_refl _ _ _, by
                by_cases g : a < s
                · obtain rfl : s = mid := by have := HSE.out; omega
                  exact Q1.out
                · obtain rfl : s = a := by omega
                  exact Q2.out⟩
              by_cases g : a < s
              · have t5 : (a : Int) < (s : Int) := by omega
                have t6 : ¬ (s : Int) < (mid : Int) := by omega
                go_upto_region 43 with fail
                by_cases c3 : mid < e ∧ e < b
                · have t7 : (mid : Int) < (e : Int) := by omega
                  have t8 : (e : Int) < (b : Int) := by omega
                  have zs2 : d.size = d.size := by first | rfl | exact HP2.out.1.1 | exact HP2.out.1.1.trans ZS.out
                  have hc3 := IH.out blk off cap mid e b d0 d w0 wr R (by omega) S1.out (by omega) c3.1 c3.2 (by omega) (by omega) (SortedIn.same Q3.out fun u q1 q2 => HP2.out.1.2.1 u (.inr q1)) (SortedIn.same Q4.out fun u q1 q2 => HP2.out.1.2.1 u (.inr (by omega)))
                  rw [zs2] at hc3
                  go_wp2_with (go_at_fn 162; refine hc3.mono ?_; rintro e' w' ⟨rfl, d3, S3, HP3⟩)
                  have P3 := HP3.out
                  have hw := HT.out.whole hb (by rw [HSE.out]; omega) (by rw [HSE.out]; omega) (by rw [HSE.out]; exact HP2.out.1) (by rw [HSE.out]; exact HP2.out.2) (by rw [HSE.out]; exact P3.1) (by rw [HSE.out]; exact P3.2)
                  go_end0
                  exact ⟨rfl, d3, S3, hw⟩
                · have P3 : Merged d mid b d := ⟨permIn_refl _ _ _, by
                    have g3 : SortedIn (ltOf cf) mid e d := SortedIn.same Q3.out fun u q1 q2 => HP2.out.1.2.1 u (.inr q1)
                    have g4 : SortedIn (ltOf cf) e b d := SortedIn.same Q4.out fun u q1 q2 => HP2.out.1.2.1 u (.inr (by have := HSE.out; omega))
                    by_cases g : mid < e
                    · obtain rfl : e = b := by omega
                      exact g3
                    · obtain rfl : mid = e := by have := HSE.out; omega
                      exact g4⟩
                  have hw := HT.out.whole hb (by rw [HSE.out]; omega) (by rw [HSE.out]; omega) (by rw [HSE.out]; exact HP2.out.1) (by rw [HSE.out]; exact HP2.out.2) (by rw [HSE.out]; exact P3.1) (by rw [HSE.out]; exact P3.2)
                  by_cases g : mid < e
                  · have t7 : (mid : Int) < (e : Int) := by omega
                    have t8 : ¬ (e : Int) < (b : Int) := by omega
                    go_wp2
                    go_end0
                    exact ⟨rfl, d, S1, hw⟩
                  · have t7 : ¬ (mid : Int) < (e : Int) := by omega
                    go_wp2
                    go_end0
                    exact ⟨rfl, d, S1, hw⟩
              · have t5 : ¬ (a : Int) < (s : Int) := by omega
                go_upto_region 43 with fail
                by_cases c3 : mid < e ∧ e < b
                · have t7 : (mid : Int) < (e : Int) := by omega
                  have t8 : (e : Int) < (b : Int) := by omega
                  have zs2 : d.size = d.size := by first | rfl | exact HP2.out.1.1 | exact HP2.out.1.1.trans ZS.out
                  have hc3 := IH.out blk off cap mid e b d0 d w0 wr R (by omega) S1.out (by omega) c3.1 c3.2 (by omega) (by omega) (SortedIn.same Q3.out fun u q1 q2 => HP2.out.1.2.1 u (.inr q1)) (SortedIn.same Q4.out fun u q1 q2 => HP2.out.1.2.1 u (.inr (by omega)))
                  rw [zs2] at hc3
                  go_wp2_with (go_at_fn 162; refine hc3.mono ?_; rintro e' w' ⟨rfl, d3, S3, HP3⟩)
                  have P3 := HP3.out
                  have hw := HT.out.whole hb (by rw [HSE.out]; omega) (by rw [HSE.out]; omega) (by rw [HSE.out]; exact HP2.out.1) (by rw [HSE.out]; exact HP2.out.2) (by rw [HSE.out]; exact P3.1) (by rw [HSE.out]; exact P3.2)
                  go_end0
                  exact ⟨rfl, d3, S3, hw⟩
                · have P3 : Merged d mid b d := ⟨permIn_refl _ _ _, by
                    have g3 : SortedIn (ltOf cf) mid e d := SortedIn.same Q3.out fun u q1 q2 => HP2.out.1.2.1 u (.inr q1)
                    have g4 : SortedIn (ltOf cf) e b d := SortedIn.same Q4.out fun u q1 q2 => HP2.out.1.2.1 u (.inr (by have := HSE.out; omega))
                    by_cases g : mid < e
                    · obtain rfl : e = b := by omega
                      exact g3
                    · obtain rfl : mid = e := by have := HSE.out; omega
                      exact g4⟩
                  have hw := HT.out.whole hb (by rw [HSE.out]; omega) (by rw [HSE.out]; omega) (by rw [HSE.out]; exact HP2.out.1) (by rw [HSE.out]; exact HP2.out.2) (by rw [HSE.out]; exact P3.1) (by rw [HSE.out]; exact P3.2)
                  by_cases g : mid < e
                  · have t7 : (mid : Int) < (e : Int) := by omega
                    have t8 : ¬ (e : Int) < (b : Int) := by omega
                    go_wp2
                    go_end0
                    exact ⟨rfl, d, S1, hw⟩
                  · have t7 : ¬ (mid : Int) < (e : Int) := by omega
                    go_wp2
                    go_end0
                    exact ⟨rfl, d, S1, hw⟩
        · have t3 : ¬ (s : Int) < (m : Int) := by omega
          have HT : Aside (Turned (ltOf cf) d a m b s e d) := HC.out.still swo hb SLf.out SRt.out (.inl (by omega))
          go_upto_region 41 with fail
          have l12 := HT.out.l1
          have l22 := HT.out.l2
          have r12 := HT.out.r1
          have r22 := HT.out.r2
          rw [HSE.out] at l22 r12
          have Q1 : Hid _ := l12
          have Q2 : Hid _ := l22
          have Q3 : Hid _ := r12
          have Q4 : Hid _ := r22
          clear l12 l22 r12 r22
          have ZS : Hid (d.size = d.size) := HT.out.perm.1
          by_cases c2 : a < s ∧ s < mid
          · have t5 : (a : Int) < (s : Int) := by omega
            have t6 : (s : Int) < (mid : Int) := by omega
            have hc2 := IH.out blk off cap a s mid d0 d w0 wr R (by have := ZS.out; omega) S1.out (by omega) c2.1 c2.2 (by have := ZS.out; omega) (by have := ZS.out; omega) Q1.out Q2.out
            rw [ZS.out] at hc2
            go_upto_region 43 with (go_at_fn 162; refine hc2.mono ?_; rintro e' W2 ⟨rfl, d2, S2, HP2⟩)
            by_cases c3 : mid < e ∧ e < b
            · have t7 : (mid : Int) < (e : Int) := by omega
              have t8 : (e : Int) < (b : Int) := by omega
              have zs2 : d2.size = d.size := by first | rfl | exact HP2.out.1.1 | exact HP2.out.1.1.trans ZS.out
              have hc3 := IH.out blk off cap mid e b d0 d2 w0 W2 R (by omega) S2.out (by omega) c3.1 c3.2 (by omega) (by omega) (SortedIn.same Q3.out fun u q1 q2 => HP2.out.1.2.1 u (.inr q1)) (SortedIn.same Q4.out fun u q1 q2 => HP2.out.1.2.1 u (.inr (by omega)))
              rw [zs2] at hc3
              go_wp2_with (go_at_fn 162; refine hc3.mono ?_; rintro e' w' ⟨rfl, d3, S3, HP3⟩)
              have P3 := HP3.out
              have hw := HT.out.whole hb (by rw [HSE.out]; omega) (by rw [HSE.out]; omega) (by rw [HSE.out]; exact HP2.out.1) (by rw [HSE.out]; exact HP2.out.2) (by rw [HSE.out]; exact P3.1) (by rw [HSE.out]; exact P3.2)
              go_end0
              exact ⟨rfl, d3, S3, hw⟩
            · have P3 : Merged d2 mid b d2 := ⟨permIn_refl _ _ _, by
                have g3 : SortedIn (ltOf cf) mid e d2 := SortedIn.same Q3.out fun u q1 q2 => HP2.out.1.2.1 u (.inr q1)
                have g4 : SortedIn (ltOf cf) e b d2 := SortedIn.same Q4.out fun u q1 q2 => HP2.out.1.2.1 u (.inr (by have := HSE.out; omega))
                by_cases g : mid < e
                · obtain rfl : e = b := by omega
                  exact g3
                · obtain rfl : mid = e := by have := HSE.out; omega
                  exact g4⟩
              have hw := HT.out.whole hb (by rw [HSE.out]; omega) (by rw [HSE.out]; omega) (by rw [HSE.out]; exact HP2.out.1) (by rw [HSE.out]; exact HP2.out.2) (by rw [HSE.out]; exact P3.1) (by rw [HSE.out]; exact P3.2)
              by_cases g : mid < e
              · have t7 : (mid : Int) < (e : Int) := by omega
                have t8 : ¬ (e : Int) < (b : Int) := by omega
                go_wp2
                go_end0
                exact ⟨rfl, d2, S2, hw⟩
              · have t7 : ¬ (mid : Int) < (e : Int) := by omega
                go_wp2
                go_end0
                exact ⟨rfl, d2, S2, hw⟩
          · have HP2 : Hid (Merged d a mid d) := ⟨permIn_refl _ _ _, by
              by_cases g : a < s
              · obtain rfl : s = mid := by have := HSE.out; omega
                exact Q1.out
              · obtain rfl : s = a := by omega
                exact Q2.out⟩
            by_cases g : a < s
            · have t5 : (a : Int) < (s : Int) := by omega
              have t6 : ¬ (s : Int) < (mid : Int) := by omega
              go_upto_region 43 with fail
              by_cases c3 : mid < e ∧ e < b
              · have t7 : (mid : Int) < (e : Int) := by omega
                have t8 : (e : Int) < (b : Int) := by omega
                have zs2 : d.size = d.size := by first | rfl | exact HP2.out.1.1 | exact HP2.out.1.1.trans ZS.out
                have hc3 := IH.out blk off cap mid e b d0 d w0 wr R (by omega) S1.out (by omega) c3.1 c3.2 (by omega) (by omega) (SortedIn.same Q3.out fun u q1 q2 => HP2.out.1.2.1 u (.inr q1)) (SortedIn.same Q4.out fun u q1 q2 => HP2.out.1.2.1 u (.inr (by omega)))
                rw [zs2] at hc3
                go_wp2_with (go_at_fn 162; refine hc3.mono ?_; rintro e' w' ⟨rfl, d3, S3, HP3⟩)
                have P3 := HP3.out
                have hw := HT.out.whole hb (by rw [HSE.out]; omega) (by rw [HSE.out]; omega) (by rw [HSE.out]; exact HP2.out.1) (by rw [HSE.out]; exact HP2.out.2) (by rw [HSE.out]; exact P3.1) (by rw [HSE.out]; exact P3.2)
                go_end0
                exact ⟨rfl, d3, S3, hw⟩
              · have P3 : Merged d mid b d := ⟨permIn_refl _ _ _, by
                  have g3 : SortedIn (ltOf cf) mid e d := SortedIn.same Q3.out fun u q1 q2 => HP2.out.1.2.1 u (.inr q1)
                  have g4 : SortedIn (ltOf cf) e b d := SortedIn.same Q4.out fun u q1 q2 => HP2.out.1.2.1 u (.inr (by have := HSE.out; omega))
                  by_cases g : mid < e
                  · obtain rfl : e = b := by omega
                    exact g3
                  · obtain rfl : mid = e := by have := HSE.out; omega
                    exact g4⟩
                have hw := HT.out.whole hb (by rw [HSE.out]; omega) (by rw [HSE.out]; omega) (by rw [HSE.out]; exact HP2.out.1) (by rw [HSE.out]; exact HP2.out.2) (by rw [HSE.out]; exact P3.1) (by rw [HSE.out]; exact P3.2)
                by_cases g : mid < e
                · have t7 : (mid : Int) < (e : Int) := by omega
                  have t8 : ¬ (e : Int) < (b : Int) := by omega
                  go_wp2
                  go_end0
                  exact ⟨rfl, d, S1, hw⟩
                · have t7 : ¬ (mid : Int) < (e : Int) := by omega
                  go_wp2
                  go_end0
                  exact ⟨rfl, d, S1, hw⟩
            · have t5 : ¬ (a : Int) < (s : Int) := by omega
              go_upto_region 43 with fail
              by_cases c3 : mid < e ∧ e < b
              · have t7 : (mid : Int) < (e : Int) := by omega
                have t8 : (e : Int) < (b : Int) := by omega
                have zs2 : d.size = d.size := by first | rfl | exact HP2.out.1.1 | exact HP2.out.1.1.trans ZS.out
                have hc3 := IH.out blk off cap mid e b d0 d w0 wr R (by omega) S1.out (by omega) c3.1 c3.2 (by omega) (by omega) (SortedIn.same Q3.out fun u q1 q2 => HP2.out.1.2.1 u (.inr q1)) (SortedIn.same Q4.out fun u q1 q2 => HP2.out.1.2.1 u (.inr (by omega)))
                rw [zs2] at hc3
                go_wp2_with (go_at_fn 162; refine hc3.mono ?_; rintro e' w' ⟨rfl, d3, S3, HP3⟩)
                have P3 := HP3.out
                have hw := HT.out.whole hb (by rw [HSE.out]; omega) (by rw [HSE.out]; omega) (by rw [HSE.out]; exact HP2.out.1) (by rw [HSE.out]; exact HP2.out.2) (by rw [HSE.out]; exact P3.1) (by rw [HSE.out]; exact P3.2)
                go_end0
                exact ⟨rfl, d3, S3, hw⟩
              · have P3 : Merged d mid b d := ⟨permIn_refl _ _ _, by
                  have g3 : SortedIn (ltOf cf) mid e d := SortedIn.same Q3.out fun u q1 q2 => HP2.out.1.2.1 u (.inr q1)
                  have g4 : SortedIn (ltOf cf) e b d := SortedIn.same Q4.out fun u q1 q2 => HP2.out.1.2.1 u (.inr (by have := HSE.out; omega))
                  by_cases g : mid < e
                  · obtain rfl : e = b := by omega
                    exact g3
                  · obtain rfl : mid = e := by have := HSE.out; omega
                    exact g4⟩
                have hw := HT.out.whole hb (by rw [HSE.out]; omega) (by rw [HSE.out]; omega) (by rw [HSE.out]; exact HP2.out.1) (by rw [HSE.out]; exact HP2.out.2) (by rw [HSE.out]; exact P3.1) (by rw [HSE.out]; exact P3.2)
                by_cases g : mid < e
                · have t7 : (mid : Int) < (e : Int) := by omega
                  have t8 : ¬ (e : Int) < (b : Int) := by omega
                  go_wp2
                  go_end0
                  exact ⟨rfl, d, S1, hw⟩
                · have t7 : ¬ (mid : Int) < (e : Int) := by omega
                  go_wp2
                  go_end0
                  exact ⟨rfl, d, S1, hw⟩
/-- symMerge, of any parts. -/
theorem merge_calls (L : SL P k) : ∀ N, MergeAt P k N := by
  intro N
  induction N with
  | zero => intro blk off cap a m b d0 d w0 w R hs S hN h1 h2; omega
  | succ N ih =>
    intro blk off cap a m b d0 d w0 w R hs S hN h1 h2 hb hsz sl sr
    by_cases c1 : m = a + 1
    · exact merge_one L blk off cap a m b d0 d w0 w R hs S h1 h2 hb hsz sl sr c1
    · by_cases c2 : b = m + 1
      · exact merge_last L blk off cap a m b d0 d w0 w R hs S h1 h2 hb hsz sl sr c2 c1
      · exact merge_many N ih L blk off cap a m b d0 d w0 w R hs S hN h1 h2 hb hsz sl sr c1 c2
end Go.Proofs.Ytebhclgnpnlekaa.Sorts
