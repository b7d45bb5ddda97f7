/- slices.SortStableFunc of commands by their names, by its walk: what stands then is a permutation, sorted. No condition but a small size. -/
import Derived.Test.YtebhclgnpnlekaaSortG
namespace Go.Proofs.Ytebhclgnpnlekaa.Sorts
open Go.RowKit Go.Lib Go.Sort Go.Shelf Go.Proofs.Ytebhclgnpnlekaa.B Go.Proofs.Ytebhclgnpnlekaa.Cmd Go.Proofs.Ytebhclgnpnlekaa.SortLaw

set_option maxHeartbeats 16000000 in
set_option maxRecDepth 1000000 in
theorem stable_calls (blk off cap : Nat) (d0 d : Array RC) (w0 w : World) (R : RowK enc 7 w0 blk off d0) (hs : d0.size = d.size) (S : SWK enc 7 w0 blk off d w) (hsz : d.size ≤ 1000000) :
    Calls Try.prog 140 #[.slice (some ⟨blk, off, none⟩) d.size cap, .int .i64 d.size, .func (.func byN) #[] #[]] w fun e w' =>
      e = .returned (.tuple #[]) ∧ ∃ d', Aside (SWK enc 7 w0 blk off d' w') ∧ Aside (Merged d 0 d.size d') := by
  obtain ⟨n, hn⟩ : ∃ n, d.size = n := ⟨_, rfl⟩
  have HN : Hid (d.size = n) := hn
  have HS : Hid (d0.size = n) := hs.trans hn
  have S0 : Aside _ := S
  have insC : ∀ (a b : Nat) (dk : Array RC) (W : World), SWK enc 7 w0 blk off dk W → dk.size = n → a ≤ b → b ≤ n → Calls Try.prog 161 #[.slice (some ⟨blk, off, none⟩) n cap, .int .i64 a, .int .i64 b, .func (.func byN) #[] #[]] W fun e w' =>
      e = .returned (.tuple #[]) ∧ ∃ d', Hold (SWK enc 7 w0 blk off d' w') ∧ Hold (PermIn a b dk d' ∧ SortedIn (ltOf cf) a b d') := fun a b dk W hW hk hab hb => by
    have := ins_calls blk off cap a b d0 dk w0 W R (by rw [hk, ← hn]; exact hs) hW hab (by omega) (by omega)
    rwa [hk] at this
  have merC : ∀ (a m b : Nat) (dk : Array RC) (W : World), SWK enc 7 w0 blk off dk W → dk.size = n → a < m → m < b → b ≤ n → SortedIn (ltOf cf) a m dk → SortedIn (ltOf cf) m b dk → Calls Try.prog 162 #[.slice (some ⟨blk, off, none⟩) n cap, .int .i64 a, .int .i64 m, .int .i64 b, .func (.func byN) #[] #[]] W fun e w' =>
      e = .returned (.tuple #[]) ∧ ∃ d', Aside (SWK enc 7 w0 blk off d' w') ∧ Aside (Merged dk a b d') := fun a m b dk W hW hk h1 h2 hb q1 q2 => by
    have := merge_calls sl (b - a) blk off cap a m b d0 dk w0 W R (by rw [hk, ← hn]; exact hs) hW (by omega) h1 h2 (by omega) (by omega) q1 q2
    rwa [hk] at this
  have IC : Aside _ := insC
  have MC : Aside _ := merC
  have hn6 : n ≤ 1000000 := by omega
  rw [hn]
  clear insC merC S hs hn hsz
  go_enter Try.func140, Try.ntmps140
  go_wp2
  go_loopg [7, 8] n (fun kx s7 s8 wr => ∃ (t a : Nat) (dk : Array RC), s7 = .int .i64 a ∧ s8 = .int .i64 ((a : Int) + 20) ∧ n - a ≤ kx ∧ a ≤ n ∧ Hid (a = t * 20) ∧ Hid (dk.size = n) ∧ Aside (SWK enc 7 w0 blk off dk wr) ∧ Aside (PermIn 0 n d dk) ∧ Aside (Made (ltOf cf) 20 t dk))
  case atStart => exact ⟨0, 0, d, by go_num, by go_num, by omega, by omega, (show Hid _ from rfl), HN, S0, permIn_refl _ _ _, fun q hq => by omega⟩
  case round =>
    obtain ⟨t, a, dk, rfl, rfl, hkx, han, HA, HK, S1, HP, HM⟩ := hrel
    clear S0
    by_cases hlt : a + 20 ≤ n
    · have hltz : (a : Int) + 20 ≤ (n : Int) := by omega
      go_wp2_with fail
      refine (IC.out a (a + 20) dk _ S1.out HK.out (by omega) hlt).mono ?_
      rintro e w1 ⟨rfl, d1, S2, H2⟩
      go_wp2
      go_roundg (n - (a + 20))
      case measure => omega
      case rel =>
        have hp := H2.out.1
        have hs2 := H2.out.2
        refine ⟨t + 1, a + 20, d1, by go_num, by first | rfl | go_num | (congr 1; omega), Nat.le_refl _, hlt, ?_, ?_, S2.out, permIn_trans _ _ _ _ _ HP.out (permIn_mono _ _ _ _ _ _ (Nat.zero_le _) hlt (by have := HK.out; omega) hp), ?_⟩
        · show _ = _; have := HA.out; omega
        · show _ = _; exact hp.1.trans HK.out
        · have e1 := HA.out
          rw [e1] at hp hs2
          exact HM.out.step hp hs2
    · have hltz : ¬ (a : Int) + 20 ≤ (n : Int) := by omega
      go_wp2_with fail
      refine (IC.out a n dk _ S1.out HK.out han (Nat.le_refl _)).mono ?_
      rintro e w1 ⟨rfl, d1, S2, H2⟩
      have HB : Aside (Blocks (ltOf cf) 20 n d1) := by
        have hp := H2.out.1
        have hs2 := H2.out.2
        have e1 := HA.out
        rw [e1] at hp hs2
        exact HM.out.blocks hp hs2 (by omega)
      have HP2 : Aside (PermIn 0 n d d1) := permIn_trans _ _ _ _ _ HP.out (permIn_mono _ _ _ _ _ _ (Nat.zero_le _) (Nat.le_refl _) (by have := HK.out; omega) H2.out.1)
      have HK2 : Hid (d1.size = n) := H2.out.1.1.trans HK.out
      have S2' : Aside _ := S2.out
      clear HM HP H2 S1 S2 HK HA
      go_wp2
      go_loopg [6, 7, 8, 9] n (fun kx s6 s7 s8 s9 wr => ∃ (s : Nat) (dk : Array RC), s6 = .int .i64 s ∧ n - s ≤ kx ∧ 20 ≤ s ∧ s ≤ 2000000 ∧ Hid (dk.size = n) ∧ Aside (SWK enc 7 w0 blk off dk wr) ∧ Aside (PermIn 0 n d dk) ∧ Aside (Blocks (ltOf cf) s n dk))
      case atStart => exact ⟨20, d1, by go_num, by omega, by omega, by omega, HK2, S2', HP2, HB⟩
      case round =>
        obtain ⟨s, dk, rfl, hkx, hs1, hs2, HK, S1, HP, HB⟩ := hrel
        by_cases hlt : s < n
        · have hltz : (s : Int) < (n : Int) := by omega
          go_wp2
          go_loopg [7, 8] n (fun kx s7 s8 wr => ∃ (t a : Nat) (dk : Array RC), s7 = .int .i64 a ∧ s8 = .int .i64 ((a : Int) + 2 * (s : Int)) ∧ n - a ≤ kx ∧ a ≤ n ∧ Hid (a = t * (2 * s)) ∧ Hid (dk.size = n) ∧ Aside (SWK enc 7 w0 blk off dk wr) ∧ Aside (PermIn 0 n d dk) ∧ Aside (Half (ltOf cf) s n t dk))
          case atStart => exact ⟨0, 0, dk, by go_num, by first | rfl | go_num | (congr 1; omega), by omega, by omega, (show Hid _ from by show _ = _; simp), HK, S1, HP, Half.start HB.out⟩
          case round =>
            obtain ⟨t, a, dk, rfl, rfl, hkx2, han, HA, HK, S1, HP, HM⟩ := hrel
            by_cases hle : a + 2 * s ≤ n
            · have hlez : (a : Int) + 2 * (s : Int) ≤ (n : Int) := by omega
              have hpt := HM.out.parts
              rw [← HA.out] at hpt
              have hmc := MC.out a (a + s) (a + 2 * s) dk _ S1.out HK.out (by omega) (by omega) hle (by have := hpt.1; rwa [Nat.min_eq_left (by omega)] at this) (by have := hpt.2; rwa [Nat.min_eq_left (by omega)] at this)
              have ea : ((a + s : Nat) : Int) = (a : Int) + (s : Int) := by omega
              have eb : ((a + 2 * s : Nat) : Int) = (a : Int) + 2 * (s : Int) := by omega
              rw [ea, eb] at hmc
              clear hpt ea eb
              go_wp2_with fail
              refine hmc.mono ?_
              rintro e w2 ⟨rfl, d2, S3, H3⟩
              go_wp2
              go_roundg (n - (a + 2 * s))
              case measure => omega
              case rel =>
                have hp := H3.out.1
                have hq := H3.out.2
                refine ⟨t + 1, a + 2 * s, d2, by first | rfl | go_num | (congr 1; omega), by first | rfl | go_num | (congr 1; omega), Nat.le_refl _, hle, ?_, ?_, S3, permIn_trans _ _ _ _ _ HP.out (permIn_mono _ _ _ _ _ _ (Nat.zero_le _) hle (by have := HK.out; omega) hp), ?_⟩
                · show _ = _; rw [HA.out, Nat.add_mul, Nat.one_mul]
                · show _ = _; exact hp.1.trans HK.out
                · refine HM.out.step ?_ ?_
                  · rw [← HA.out, Nat.min_eq_left hle]; exact hp
                  · rw [← HA.out, Nat.min_eq_left hle]; exact hq
            · have hlez : ¬ (a : Int) + 2 * (s : Int) ≤ (n : Int) := by omega
              by_cases hm : a + s < n
              · have hmz : (a : Int) + (s : Int) < (n : Int) := by omega
                have hpt := HM.out.parts
                rw [← HA.out] at hpt
                have hmc := MC.out a (a + s) n dk _ S1.out HK.out (by omega) hm (Nat.le_refl _) (by have := hpt.1; rwa [Nat.min_eq_left (by omega)] at this) (by have := hpt.2; rwa [Nat.min_eq_right (by omega)] at this)
                have ea : ((a + s : Nat) : Int) = (a : Int) + (s : Int) := by omega
                rw [ea] at hmc
                clear hpt ea
                go_wp2_with fail
                refine hmc.mono ?_
                rintro e w2 ⟨rfl, d2, S3, H3⟩
                go_wp2
                go_roundg (n - s * 2)
                case measure => omega
                case rel =>
                  have hp := H3.out.1
                  have hq := H3.out.2
                  refine ⟨2 * s, d2, by first | rfl | go_num | (congr 1; omega), by omega, by omega, by omega, ?_, S3, permIn_trans _ _ _ _ _ HP.out (permIn_mono _ _ _ _ _ _ (Nat.zero_le _) (Nat.le_refl _) (by have := HK.out; omega) hp), ?_⟩
                  · show _ = _; exact hp.1.trans HK.out
                  · have h1 : Half (ltOf cf) s n (t + 1) d2 := HM.out.step (by rw [← HA.out, Nat.min_eq_right (by omega)]; exact hp) (by rw [← HA.out, Nat.min_eq_right (by omega)]; exact hq)
                    refine h1.stop' ?_
                    rw [Nat.add_mul, Nat.one_mul, ← HA.out]; omega
              · have hmz : ¬ (a : Int) + (s : Int) < (n : Int) := by omega
                go_wp2
                go_roundg (n - s * 2)
                case measure => omega
                case rel => exact ⟨2 * s, dk, by first | rfl | go_num | (congr 1; omega), by omega, by omega, by omega, HK, S1, HP, HM.out.stop (by rw [← HA.out]; omega)⟩
        · have hltz : ¬ (s : Int) < (n : Int) := by omega
          go_wp2
          go_end0
          exact ⟨rfl, dk, S1, ⟨HP.out, HB.out.sorted (by omega)⟩⟩
theorem sort_calls (blk off cap : Nat) (d : Array RC) (w : World) (R : RowK enc 7 w blk off d) (hsz : d.size ≤ 1000000) :
    Calls Try.prog 90 #[.slice (some ⟨blk, off, none⟩) d.size cap, .func (.func byN) #[] #[]] w fun e w' =>
      e = .returned (.tuple #[]) ∧ ∃ d', Aside (SWK enc 7 w blk off d' w') ∧ Aside (Merged d 0 d.size d') := by
  have hc := stable_calls blk off cap d d w w R rfl (SWK.start R.hH) hsz
  have hl : d.size ≤ 9223372036854775807 := by omega
  obtain ⟨n, hn⟩ : ∃ n, d.size = n := ⟨_, rfl⟩
  rw [hn] at hc ⊢
  have HN : Hid (d.size = n) := hn
  clear hn hsz hl R
  go_enter Try.func90, Try.ntmps90
  go_wp2_with fail
  refine hc.mono ?_
  rintro e w' ⟨rfl, d', S, H⟩
  go_wp2
  go_end0
  exact ⟨rfl, d', S, H⟩
end Go.Proofs.Ytebhclgnpnlekaa.Sorts
