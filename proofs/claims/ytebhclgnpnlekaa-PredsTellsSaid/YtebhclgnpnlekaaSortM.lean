/- slices.symMerge of commands, by its walk. Made by mk_sort.py. No condition. -/
import Derived.Test.YtebhclgnpnlekaaSortR
namespace Go.Proofs.Ytebhclgnpnlekaa.Sorts
open Go.RowKit Go.Lib Go.Sort Go.Shelf Go.Proofs.Ytebhclgnpnlekaa.B Go.Proofs.Ytebhclgnpnlekaa.Cmd Go.Proofs.Ytebhclgnpnlekaa.SortLaw
variable {P : Program} {k : Nat}
/-- What a merge leaves. -/
def Merged (d : Array RC) (a b : Nat) (d' : Array RC) : Prop := PermIn a b d d' ∧ SortedIn (ltOf cf) a b d'
abbrev MergeAt (P : Program) (k : Nat) (N : Nat) : Prop := ∀ (blk off cap a m b : Nat) (d0 d : Array RC) (w0 w : World) (_ : RowK enc k w0 blk off d0) (_ : d0.size = d.size) (_ : SWK enc k w0 blk off d w) (_ : b ≤ a + N) (_ : a < m) (_ : m < b) (_ : b ≤ d.size) (_ : d.size < 4611686018427387904) (_ : SortedIn (ltOf cf) a m d) (_ : SortedIn (ltOf cf) m b d),
    Calls P 162 #[.slice (some ⟨blk, off, none⟩) d.size cap, .int .i64 a, .int .i64 m, .int .i64 b, .func (.func byN) #[] #[]] w fun e w' =>
      e = .returned (.tuple #[]) ∧ ∃ d', Aside (SWK enc k w0 blk off d' w') ∧ Aside (Merged d a b d')
set_option maxHeartbeats 8000000 in
set_option maxRecDepth 1000000 in
theorem merge_one (L : SL P k) (blk off cap a m b : Nat) (d0 d : Array RC) (w0 w : World) (R : RowK enc k w0 blk off d0) (hs : d0.size = d.size) (S : SWK enc k w0 blk off d w) (h1 : a < m) (h2 : m < b) (hb : b ≤ d.size) (hsz : d.size < 4611686018427387904) (sl : SortedIn (ltOf cf) a m d) (sr : SortedIn (ltOf cf) m b d) (hm : m = a + 1) :
    Calls P 162 #[.slice (some ⟨blk, off, none⟩) d.size cap, .int .i64 a, .int .i64 m, .int .i64 b, .func (.func byN) #[] #[]] w fun e w' =>
      e = .returned (.tuple #[]) ∧ ∃ d', Aside (SWK enc k w0 blk off d' w') ∧ Aside (Merged d a b d') := by
  have mixed := L.mixed; have t0 := L.t0; have a0 := L.a0; have z0 := L.z0; have v0 := L.v0; have t3 := L.t3; have a3 := L.a3; have z3 := L.z3; have v3 := L.v3; have t4 := L.t4; have a4 := L.a4; have z4 := L.z4; have v4 := L.v4; have tu := L.tu; have au := L.au; have zu := L.zu; have vu := L.vu; have ts := L.ts; have asl := L.asl; have zs := L.zs; have vs := L.vs; have tf := L.tf; have af := L.af; have zf := L.zf; have vf := L.vf; have aE := L.aE; have zE := L.zE; have eg := L.eg
  subst hm
  have S0 : Aside _ := S
  have SR : Aside _ := sr
  clear S sl sr
  have t0' : ((((a + 1 : Nat) : Int) - (a : Int)) == 1) = true := by simp; omega
  have t0'' : (((a : Int) + 1 - (a : Int)) == 1) = true := by simp; omega
  go_enter L.fM, Try.ntmps162
  go_wp2
  go_loopg [10, 11] (b - (a + 1)) (fun kx s10 s11 wr => ∃ (i j : Nat), s10 = .int .i64 i ∧ s11 = .int .i64 j ∧ j - i ≤ kx ∧ a + 1 ≤ i ∧ i ≤ j ∧ j ≤ b ∧ Aside (SWK enc k w0 blk off d wr) ∧ Hid (i = a + 1 ∨ ltOf cf d[i - 1]! d[a]! = true) ∧ Hid (j = b ∨ ltOf cf d[j]! d[a]! = false))
  case atStart => exact ⟨a + 1, b, by go_num, rfl, Nat.le_refl _, by omega, by omega, by omega, S0, (show Hid _ from .inl rfl), (show Hid _ from .inl rfl)⟩
  case round =>
    obtain ⟨i, j, rfl, rfl, hkx, hi, hij, hj, S1, I1, I2⟩ := hrel
    clear S0
    by_cases hlt : i < j
    · have hltz : (i : Int) < (j : Int) := by omega
      obtain ⟨h, hh⟩ : ∃ h : Nat, (i + j) / 2 = h := ⟨_, rfl⟩
      have qh0 : IntKind.u64.wrap ((i : Int) + (j : Int)) = (i : Int) + (j : Int) := by rw [IntKind.wrap_u64]; omega
      have qh1 : ((i : Int) + (j : Int)) / 2 = (h : Int) := by omega
      have qh2 : IntKind.i64.wrap (h : Int) = (h : Int) := by rw [IntKind.wrap_i64]; omega
      have z1 : (h : Int) < (d.size : Int) := by omega
      have z1n : h < d.size := by omega
      have z2 : (a : Int) < (d.size : Int) := by omega
      have z2n : a < d.size := by omega
      cases hL : ltOf cf d[h]! d[a]! with
      | true =>
        obtain ⟨x1, hx1⟩ : ∃ x, x = d[h]! := ⟨_, rfl⟩
        obtain ⟨y1, hy1⟩ : ∃ x, x = d[a]! := ⟨_, rfl⟩
        have l1a := S1.out.ld R (by omega) P (h) (by omega)
        have l1b := S1.out.ld R (by omega) P (a) (by omega)
        rw [← hx1] at l1a
        rw [← hy1] at l1b
        have hc1 := S1.out.cmp (L.cmp blk off d.size w0) rfl x1 y1
        have hv1 : cf x1 y1 < 0 := by rw [hx1, hy1]; exact of_decide_eq_true hL
        have hd1 : decide (cf x1 y1 < 0) = true := decide_eq_true hv1
        have nx1 := R.hk x1
        have ny1 := R.hk y1
        clear hx1 hy1
        go_wp2_with fail
        go_quiet_grown (first | (go_at_fn byN; refine Calls.grown_of (hc1 _ _)))
        have S2 : Aside (SWK enc k w0 blk off d (grow (wr.drewN nq) osq)) := S1.out.grown nq osq
        clear l1a l1b hc1 S1
        generalize grow (wr.drewN nq) osq = w2 at S2 ⊢
        clear nq osq
        go_wp2
        go_roundg (j - (h + 1))
        case measure => omega
        case rel => exact ⟨h + 1, j, by go_num, rfl, Nat.le_refl _, by omega, by omega, hj, S2, (show Hid _ from .inr hL), I2⟩
      | false =>
        obtain ⟨x1, hx1⟩ : ∃ x, x = d[h]! := ⟨_, rfl⟩
        obtain ⟨y1, hy1⟩ : ∃ x, x = d[a]! := ⟨_, rfl⟩
        have l1a := S1.out.ld R (by omega) P (h) (by omega)
        have l1b := S1.out.ld R (by omega) P (a) (by omega)
        rw [← hx1] at l1a
        rw [← hy1] at l1b
        have hc1 := S1.out.cmp (L.cmp blk off d.size w0) rfl x1 y1
        have hv1 : ¬ cf x1 y1 < 0 := by rw [hx1, hy1]; exact of_decide_eq_false hL
        have hd1 : decide (cf x1 y1 < 0) = false := decide_eq_false hv1
        have nx1 := R.hk x1
        have ny1 := R.hk y1
        clear hx1 hy1
        go_wp2_with fail
        go_quiet_grown (first | (go_at_fn byN; refine Calls.grown_of (hc1 _ _)))
        have S2 : Aside (SWK enc k w0 blk off d (grow (wr.drewN nq) osq)) := S1.out.grown nq osq
        clear l1a l1b hc1 S1
        generalize grow (wr.drewN nq) osq = w2 at S2 ⊢
        clear nq osq
        go_wp2
        go_roundg (h - i)
        case measure => omega
        case rel => exact ⟨i, h, rfl, rfl, Nat.le_refl _, hi, by omega, by omega, S2, I1, (show Hid _ from .inr hL)⟩
    · have hltz : ¬ (i : Int) < (j : Int) := by omega
      obtain rfl : i = j := by omega
      go_wp2
      go_loopg [13] (i - 1 - a) (fun kx s13 wr => ∃ (q : Nat) (dk : Array RC), s13 = .int .i64 q ∧ i - 1 - q ≤ kx ∧ a ≤ q ∧ q ≤ i - 1 ∧ dk.size = d.size ∧ Aside (SWK enc k w0 blk off dk wr) ∧ Aside (ShR d a q dk) ∧ Aside (PermIn a b d dk))
      case atStart => exact ⟨a, d, rfl, by omega, Nat.le_refl _, by omega, rfl, S1, ShR.start d a, permIn_refl _ _ _⟩
      case round =>
        obtain ⟨q, dk, rfl, hkx, hq, hqi, hds, S2, H2, HP⟩ := hrel
        clear S1
        by_cases hlt : q < i - 1
        · have hltz : (q : Int) < (i : Int) - 1 := by omega
          have z1 : (q : Int) < (d.size : Int) := by omega
          have z1n : q < d.size := by omega
          have e2j : ((q : Int) + 1).toNat = q + 1 := by omega
          have p2j : (0 : Int) ≤ (q : Int) + 1 := by omega
          have b2j : (q : Int) + 1 < (d.size : Int) := by omega
          have r2j : IntKind.i64.wrap ((q : Int) + 1) = (q : Int) + 1 := by rw [IntKind.wrap_i64]; omega
          have S3 : Aside (SWK enc k w0 blk off (swp dk (q) (q + 1)) ((wr.drew.setCells blk (off + (q) * k) (enc dk[q + 1]!)).setCells blk (off + (q + 1) * k) (enc dk[q]!))) := S2.out.swapped R (q) (q + 1) (by omega) (by omega)
          have l2a := S2.out.ld1 R (by omega) P (q) (by omega)
          have l2b := S2.out.ld1 R (by omega) P (q + 1) (by omega)
          have s2a := S2.out.st1 R (by omega) P (q) (by omega) dk[q + 1]!
          have s2b := S2.out.st2 R (by omega) P (q) (q + 1) (by omega) (by omega) dk[q + 1]! dk[q]!
          have n2a : (enc dk[q]!).length = k := R.hk _
          have n2b : (enc dk[q + 1]!).length = k := R.hk _
          generalize enc dk[q]! = cI2 at S3 l2a s2b n2a
          generalize enc dk[q + 1]! = cJ2 at S3 l2b s2a s2b n2b
          clear S2
          go_wp2_with fail
          go_big_region_o
          clear l2a l2b s2a s2b
          generalize (wr.drew.setCells blk (off + (q) * k) cJ2).setCells blk (off + (q + 1) * k) cI2 = w3 at S3 ⊢
          go_wp2
          go_roundg (i - 1 - (q + 1))
          case measure => omega
          case rel => exact ⟨q + 1, _, by go_num, Nat.le_refl _, by omega, by omega, by rw [size_swp]; exact hds, S3, H2.out.step hq (by omega), permIn_trans _ _ _ _ _ HP.out (swp_permIn _ _ _ _ _ (by omega) (by omega) (by omega) (by omega) (by omega))⟩
        · have hltz : ¬ (q : Int) < (i : Int) - 1 := by omega
          obtain rfl : q = i - 1 := by omega
          go_wp2
          (try simp only [Exit.inBlock, Exit.then]); refine bodyPost_ret (results_none rfl _ _ _) rfl ?_
          exact ⟨rfl, dk, S2, HP.out, ins_right swo hi hj SR.out I1.out I2.out H2.out⟩
set_option maxHeartbeats 8000000 in
set_option maxRecDepth 1000000 in
theorem merge_last (L : SL P k) (blk off cap a m b : Nat) (d0 d : Array RC) (w0 w : World) (R : RowK enc k w0 blk off d0) (hs : d0.size = d.size) (S : SWK enc k w0 blk off d w) (h1 : a < m) (h2 : m < b) (hb : b ≤ d.size) (hsz : d.size < 4611686018427387904) (sl : SortedIn (ltOf cf) a m d) (sr : SortedIn (ltOf cf) m b d) (hm : b = m + 1) (hn : m ≠ a + 1) :
    Calls P 162 #[.slice (some ⟨blk, off, none⟩) d.size cap, .int .i64 a, .int .i64 m, .int .i64 b, .func (.func byN) #[] #[]] w fun e w' =>
      e = .returned (.tuple #[]) ∧ ∃ d', Aside (SWK enc k w0 blk off d' w') ∧ Aside (Merged d a b d') := by
  have mixed := L.mixed; have t0 := L.t0; have a0 := L.a0; have z0 := L.z0; have v0 := L.v0; have t3 := L.t3; have a3 := L.a3; have z3 := L.z3; have v3 := L.v3; have t4 := L.t4; have a4 := L.a4; have z4 := L.z4; have v4 := L.v4; have tu := L.tu; have au := L.au; have zu := L.zu; have vu := L.vu; have ts := L.ts; have asl := L.asl; have zs := L.zs; have vs := L.vs; have tf := L.tf; have af := L.af; have zf := L.zf; have vf := L.vf; have aE := L.aE; have zE := L.zE; have eg := L.eg
  subst hm
  have S0 : Aside _ := S
  have SLf : Aside _ := sl
  clear S sl sr
  have t0' : (((m : Int) - (a : Int)) == 1) = false := by simp; omega
  have t1' : ((((m + 1 : Nat) : Int) - (m : Int)) == 1) = true := by simp; omega
  have t1'' : (((m : Int) + 1 - (m : Int)) == 1) = true := by simp; omega
  go_enter L.fM, Try.ntmps162
  go_wp2
  go_loopg [14, 15] (m - a) (fun kx s14 s15 wr => ∃ (i j : Nat), s14 = .int .i64 i ∧ s15 = .int .i64 j ∧ j - i ≤ kx ∧ a ≤ i ∧ i ≤ j ∧ j ≤ m ∧ Aside (SWK enc k w0 blk off d wr) ∧ Hid (i = a ∨ ltOf cf d[m]! d[i - 1]! = false) ∧ Hid (j = m ∨ ltOf cf d[m]! d[j]! = true))
  case atStart => exact ⟨a, m, rfl, rfl, Nat.le_refl _, by omega, by omega, by omega, S0, (show Hid _ from .inl rfl), (show Hid _ from .inl rfl)⟩
  case round =>
    obtain ⟨i, j, rfl, rfl, hkx, hi, hij, hj, S1, I1, I2⟩ := hrel
    clear S0
    by_cases hlt : i < j
    · have hltz : (i : Int) < (j : Int) := by omega
      obtain ⟨h, hh⟩ : ∃ h : Nat, (i + j) / 2 = h := ⟨_, rfl⟩
      have qh0 : IntKind.u64.wrap ((i : Int) + (j : Int)) = (i : Int) + (j : Int) := by rw [IntKind.wrap_u64]; omega
      have qh1 : ((i : Int) + (j : Int)) / 2 = (h : Int) := by omega
      have qh2 : IntKind.i64.wrap (h : Int) = (h : Int) := by rw [IntKind.wrap_i64]; omega
      have z1 : (h : Int) < (d.size : Int) := by omega
      have z1n : h < d.size := by omega
      have z2 : (m : Int) < (d.size : Int) := by omega
      have z2n : m < d.size := by omega
      cases hL : ltOf cf d[m]! d[h]! with
      | false =>
        obtain ⟨x1, hx1⟩ : ∃ x, x = d[m]! := ⟨_, rfl⟩
        obtain ⟨y1, hy1⟩ : ∃ x, x = d[h]! := ⟨_, rfl⟩
        have l1a := S1.out.ld R (by omega) P (m) (by omega)
        have l1b := S1.out.ld R (by omega) P (h) (by omega)
        rw [← hx1] at l1a
        rw [← hy1] at l1b
        have hc1 := S1.out.cmp (L.cmp blk off d.size w0) rfl x1 y1
        have hv1 : ¬ cf x1 y1 < 0 := by rw [hx1, hy1]; exact of_decide_eq_false hL
        have hd1 : decide (cf x1 y1 < 0) = false := decide_eq_false hv1
        have nx1 := R.hk x1
        have ny1 := R.hk y1
        clear hx1 hy1
        go_wp2_with fail
        go_quiet_grown (first | (go_at_fn byN; refine Calls.grown_of (hc1 _ _)))
        have S2 : Aside (SWK enc k w0 blk off d (grow (wr.drewN nq) osq)) := S1.out.grown nq osq
        clear l1a l1b hc1 S1
        generalize grow (wr.drewN nq) osq = w2 at S2 ⊢
        clear nq osq
        go_wp2
        go_roundg (j - (h + 1))
        case measure => omega
        case rel => exact ⟨h + 1, j, by go_num, rfl, Nat.le_refl _, by omega, by omega, hj, S2, (show Hid _ from .inr hL), I2⟩
      | true =>
        obtain ⟨x1, hx1⟩ : ∃ x, x = d[m]! := ⟨_, rfl⟩
        obtain ⟨y1, hy1⟩ : ∃ x, x = d[h]! := ⟨_, rfl⟩
        have l1a := S1.out.ld R (by omega) P (m) (by omega)
        have l1b := S1.out.ld R (by omega) P (h) (by omega)
        rw [← hx1] at l1a
        rw [← hy1] at l1b
        have hc1 := S1.out.cmp (L.cmp blk off d.size w0) rfl x1 y1
        have hv1 : cf x1 y1 < 0 := by rw [hx1, hy1]; exact of_decide_eq_true hL
        have hd1 : decide (cf x1 y1 < 0) = true := decide_eq_true hv1
        have nx1 := R.hk x1
        have ny1 := R.hk y1
        clear hx1 hy1
        go_wp2_with fail
        go_quiet_grown (first | (go_at_fn byN; refine Calls.grown_of (hc1 _ _)))
        have S2 : Aside (SWK enc k w0 blk off d (grow (wr.drewN nq) osq)) := S1.out.grown nq osq
        clear l1a l1b hc1 S1
        generalize grow (wr.drewN nq) osq = w2 at S2 ⊢
        clear nq osq
        go_wp2
        go_roundg (h - i)
        case measure => omega
        case rel => exact ⟨i, h, rfl, rfl, Nat.le_refl _, hi, by omega, by omega, S2, I1, (show Hid _ from .inr hL)⟩
    · have hltz : ¬ (i : Int) < (j : Int) := by omega
      obtain rfl : i = j := by omega
      go_wp2
      go_loopg [17] (m - i) (fun kx s17 wr => ∃ (q : Nat) (dk : Array RC), s17 = .int .i64 q ∧ q - i ≤ kx ∧ i ≤ q ∧ q ≤ m ∧ dk.size = d.size ∧ Aside (SWK enc k w0 blk off dk wr) ∧ Aside (ShL d m q dk) ∧ Aside (PermIn a (m + 1) d dk))
      case atStart => exact ⟨m, d, rfl, by omega, by omega, Nat.le_refl _, rfl, S1, ShL.start d m, permIn_refl _ _ _⟩
      case round =>
        obtain ⟨q, dk, rfl, hkx, hq, hqi, hds, S2, H2, HP⟩ := hrel
        clear S1
        by_cases hlt : i < q
        · have hltz : (i : Int) < (q : Int) := by omega
          obtain ⟨p, rfl⟩ : ∃ p, q = p + 1 := ⟨q - 1, by omega⟩
          have hltz' : (i : Int) < (p : Int) + 1 := by omega
          have w1 : IntKind.i64.wrap (p : Int) = (p : Int) := by rw [IntKind.wrap_i64]; omega
          have z1 : (p : Int) < (d.size : Int) := by omega
          have z1n : p < d.size := by omega
          have e2i : ((p : Int) + 1).toNat = p + 1 := by omega
          have p2i : (0 : Int) ≤ (p : Int) + 1 := by omega
          have b2i : (p : Int) + 1 < (d.size : Int) := by omega
          have r2i : IntKind.i64.wrap ((p : Int) + 1) = (p : Int) + 1 := by rw [IntKind.wrap_i64]; omega
          have S3 : Aside (SWK enc k w0 blk off (swp dk (p + 1) (p)) ((wr.drew.setCells blk (off + (p + 1) * k) (enc dk[p]!)).setCells blk (off + (p) * k) (enc dk[p + 1]!))) := S2.out.swapped R (p + 1) (p) (by omega) (by omega)
          have l2a := S2.out.ld1 R (by omega) P (p + 1) (by omega)
          have l2b := S2.out.ld1 R (by omega) P (p) (by omega)
          have s2a := S2.out.st1 R (by omega) P (p + 1) (by omega) dk[p]!
          have s2b := S2.out.st2 R (by omega) P (p + 1) (p) (by omega) (by omega) dk[p]! dk[p + 1]!
          have n2a : (enc dk[p + 1]!).length = k := R.hk _
          have n2b : (enc dk[p]!).length = k := R.hk _
          generalize enc dk[p + 1]! = cI2 at S3 l2a s2b n2a
          generalize enc dk[p]! = cJ2 at S3 l2b s2a s2b n2b
          clear S2
          go_wp2_with fail
          go_big_region_o
          clear l2a l2b s2a s2b
          generalize (wr.drew.setCells blk (off + (p + 1) * k) cJ2).setCells blk (off + (p) * k) cI2 = w3 at S3 ⊢
          go_wp2
          go_roundg (p - i)
          case measure => omega
          case rel => exact ⟨p, _, by first | rfl | go_num | (congr 1; omega), Nat.le_refl _, by omega, by omega, by rw [size_swp]; exact hds, S3, H2.out.step (by omega) (by omega), permIn_trans _ _ _ _ _ HP.out (swp_permIn _ _ _ _ _ (by omega) (by omega) (by omega) (by omega) (by omega))⟩
        · have hltz : ¬ (i : Int) < (q : Int) := by omega
          obtain rfl : q = i := by omega
          go_wp2
          (try simp only [Exit.inBlock, Exit.then]); refine bodyPost_ret (results_none rfl _ _ _) rfl ?_
          exact ⟨rfl, dk, S2, HP.out, ins_left swo hi hj SLf.out I1.out I2.out H2.out⟩
end Go.Proofs.Ytebhclgnpnlekaa.Sorts
