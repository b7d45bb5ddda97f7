/- slices.swapRange and rotate of commands, by their walks. Made by mk_sort.py. No condition. -/
import Derived.Test.YtebhclgnpnlekaaSort
namespace Go.Proofs.Ytebhclgnpnlekaa.Sorts
open Go.RowKit Go.Lib Go.Sort Go.Shelf Go.Proofs.Ytebhclgnpnlekaa.B Go.Proofs.Ytebhclgnpnlekaa.Cmd Go.Proofs.Ytebhclgnpnlekaa.SortLaw
variable {P : Program} {k : Nat}
set_option maxHeartbeats 8000000 in
set_option maxRecDepth 1000000 in
theorem swapRange_calls (L : SL P k) (blk off cap a b n : Nat) (d0 d : Array RC) (w0 w : World) (R : RowK enc k w0 blk off d0) (hs : d0.size = d.size) (S : SWK enc k w0 blk off d w) (h1 : a + n ≤ b) (h2 : b + n ≤ d.size) (hsz : d.size < 4611686018427387904) :
    Calls P 168 #[.slice (some ⟨blk, off, none⟩) d.size cap, .int .i64 a, .int .i64 b, .int .i64 n, .func (.func byN) #[] #[]] w fun e w' =>
      e = .returned (.tuple #[]) ∧ Aside (SWK enc k w0 blk off (swapsR d a b n) w') := by
  have S0 : Aside _ := S
  have mixed := L.mixed; have t0 := L.t0; have a0 := L.a0; have z0 := L.z0; have v0 := L.v0; have t3 := L.t3; have a3 := L.a3; have z3 := L.z3; have v3 := L.v3; have t4 := L.t4; have a4 := L.a4; have z4 := L.z4; have v4 := L.v4; have tu := L.tu; have au := L.au; have zu := L.zu; have vu := L.vu; have ts := L.ts; have asl := L.asl; have zs := L.zs; have vs := L.vs; have tf := L.tf; have af := L.af; have zf := L.zf; have vf := L.vf; have aE := L.aE; have zE := L.zE; have eg := L.eg
  clear S
  go_enter L.fS, Try.ntmps168
  go_wp2
  go_loopg [10] n (fun kx s10 wr => ∃ (i : Nat) (dk : Array RC), s10 = .int .i64 i ∧ i ≤ n ∧ n - i ≤ kx ∧ dk.size = d.size ∧ Aside (SWK enc k w0 blk off dk wr) ∧ Hid (dk = swapsR d a b i))
  case atStart => exact ⟨0, d, rfl, Nat.zero_le _, Nat.le_refl _, rfl, S0, rfl⟩
  case round =>
    obtain ⟨i, dk, rfl, hi, hkx, hds, S1, HE⟩ := hrel
    clear S0
    by_cases hlt : i < n
    · have hltz : (i : Int) < (n : Int) := by omega
      have e1i : ((a : Int) + (i : Int)).toNat = a + i := by omega
      have p1i : (0 : Int) ≤ (a : Int) + (i : Int) := by omega
      have b1i : (a : Int) + (i : Int) < (d.size : Int) := by omega
      have r1i : IntKind.i64.wrap ((a : Int) + (i : Int)) = (a : Int) + (i : Int) := by rw [IntKind.wrap_i64]; omega
      have e1j : ((b : Int) + (i : Int)).toNat = b + i := by omega
      have p1j : (0 : Int) ≤ (b : Int) + (i : Int) := by omega
      have b1j : (b : Int) + (i : Int) < (d.size : Int) := by omega
      have r1j : IntKind.i64.wrap ((b : Int) + (i : Int)) = (b : Int) + (i : Int) := by rw [IntKind.wrap_i64]; omega
      have S2 : Aside (SWK enc k w0 blk off (swp dk (a + i) (b + i)) ((wr.drew.setCells blk (off + (a + i) * k) (enc dk[b + i]!)).setCells blk (off + (b + i) * k) (enc dk[a + i]!))) := S1.out.swapped R (a + i) (b + i) (by omega) (by omega)
      have l1a := S1.out.ld1 R (by omega) P (a + i) (by omega)
      have l1b := S1.out.ld1 R (by omega) P (b + i) (by omega)
      have s1a := S1.out.st1 R (by omega) P (a + i) (by omega) dk[b + i]!
      have s1b := S1.out.st2 R (by omega) P (a + i) (b + i) (by omega) (by omega) dk[b + i]! dk[a + i]!
      have n1a : (enc dk[a + i]!).length = k := R.hk _
      have n1b : (enc dk[b + i]!).length = k := R.hk _
      generalize enc dk[a + i]! = cI1 at S2 l1a s1b n1a
      generalize enc dk[b + i]! = cJ1 at S2 l1b s1a s1b n1b
      clear S1
      go_wp2_with fail
      go_big_region_o
      clear l1a l1b s1a s1b
      generalize (wr.drew.setCells blk (off + (a + i) * k) cJ1).setCells blk (off + (b + i) * k) cI1 = w2 at S2 ⊢
      go_wp2
      go_roundg (n - (i + 1))
      case measure => omega
      case rel => exact ⟨i + 1, swp dk (a + i) (b + i), by go_num, by omega, Nat.le_refl _, by rw [size_swp]; exact hds, S2, (show Hid _ from by show _ = _; rw [HE.out]; rfl)⟩
    · have hltz : ¬ (i : Int) < (n : Int) := by omega
      obtain rfl : i = n := by omega
      go_wp2
      go_end0
      refine ⟨rfl, ?_⟩
      have := S1
      rw [HE.out] at this
      exact this

set_option maxHeartbeats 8000000 in
set_option maxRecDepth 1000000 in
theorem rotate_calls (L : SL P k) (blk off cap a m b : Nat) (d0 d : Array RC) (w0 w : World) (R : RowK enc k w0 blk off d0) (hs : d0.size = d.size) (S : SWK enc k w0 blk off d w) (h1 : a < m) (h2 : m < b) (hb : b ≤ d.size) (hsz : d.size < 4611686018427387904) :
    Calls P 166 #[.slice (some ⟨blk, off, none⟩) d.size cap, .int .i64 a, .int .i64 m, .int .i64 b, .func (.func byN) #[] #[]] w fun e w' =>
      e = .returned (.tuple #[]) ∧ ∃ d', Aside (SWK enc k w0 blk off d' w') ∧ Aside (Rotated d a m b d') := by
  have S0 : Aside _ := S
  have mixed := L.mixed; have t0 := L.t0; have a0 := L.a0; have z0 := L.z0; have v0 := L.v0; have t3 := L.t3; have a3 := L.a3; have z3 := L.z3; have v3 := L.v3; have t4 := L.t4; have a4 := L.a4; have z4 := L.z4; have v4 := L.v4; have tu := L.tu; have au := L.au; have zu := L.zu; have vu := L.vu; have ts := L.ts; have asl := L.asl; have zs := L.zs; have vs := L.vs; have tf := L.tf; have af := L.af; have zf := L.zf; have vf := L.vf; have aE := L.aE; have zE := L.zE; have eg := L.eg
  have HR : Aside (Rot d a m b d (m - a) (b - m)) := Rot.start d a m b h1 h2
  clear S
  have eS : ∀ args w, (callFunc 168 args).run P w = .ok (.enter 168 args) w := enters_of L.fS (by kernel_rfl) rfl
  go_enter L.fR, Try.ntmps166
  go_wp2
  go_loopg [10, 11] (b - a) (fun kx s10 s11 wr => ∃ (i j : Nat) (dk : Array RC), s10 = .int .i64 i ∧ s11 = .int .i64 j ∧ i + j ≤ kx ∧ dk.size = d.size ∧ Aside (SWK enc k w0 blk off dk wr) ∧ Aside (Rot d a m b dk i j))
  case atStart => exact ⟨m - a, b - m, d, by go_num, by go_num, by omega, rfl, S0, HR⟩
  case round =>
    obtain ⟨i, j, dk, rfl, rfl, hkx, hds, S1, HR1⟩ := hrel
    clear S0 HR
    have i1 := HR1.out.i1
    have j1 := HR1.out.j1
    have ia := HR1.out.ia
    have jb := HR1.out.jb
    by_cases hne : i = j
    · subst hne
      have t0 : ((i : Int) != (i : Int)) = false := by simp
      have e1 : (m : Int) - (i : Int) = ((m - i : Nat) : Int) := by omega
      have hc := swapRange_calls L blk off cap (m - i) m i d0 dk w0 _ R (by omega) S1.out (by omega) (by omega) (by omega)
      rw [hds] at hc
      go_wp2_with (go_at_fn 168; refine hc.mono ?_; rintro e w' ⟨rfl, S2⟩)
      go_end0
      exact ⟨rfl, _, S2, ⟨HR1.out.last hb, fun u => HR1.out.stop hb u⟩⟩
    · have t0 : ((i : Int) != (j : Int)) = true := by simp; omega
      by_cases hij : j < i
      · have t1 : (j : Int) < (i : Int) := by omega
        have e1 : (m : Int) - (i : Int) = ((m - i : Nat) : Int) := by omega
        have hc := swapRange_calls L blk off cap (m - i) m j d0 dk w0 _ R (by omega) S1.out (by omega) (by omega) (by omega)
        rw [hds] at hc
        go_wp2_with (go_at_fn 168; refine hc.mono ?_; rintro e w' ⟨rfl, S2⟩)
        go_roundg (i - j + j)
        case measure => omega
        case rel => exact ⟨i - j, j, _, by go_num, rfl, Nat.le_refl _, by rw [swapsR_size]; exact hds, S2, HR1.out.left hb hij⟩
      · have t1 : ¬ (j : Int) < (i : Int) := by omega
        have e1 : (m : Int) - (i : Int) = ((m - i : Nat) : Int) := by omega
        have e2 : (m : Int) + (j : Int) - (i : Int) = ((m + j - i : Nat) : Int) := by omega
        have hc := swapRange_calls L blk off cap (m - i) (m + j - i) i d0 dk w0 _ R (by omega) S1.out (by omega) (by omega) (by omega)
        rw [hds] at hc
        go_wp2_with (go_at_fn 168; refine hc.mono ?_; rintro e w' ⟨rfl, S2⟩)
        go_roundg (i + (j - i))
        case measure => omega
        case rel => exact ⟨i, j - i, _, rfl, by go_num, Nat.le_refl _, by rw [swapsR_size]; exact hds, S2, HR1.out.right hb (by omega)⟩
end Go.Proofs.Ytebhclgnpnlekaa.Sorts
