/- The document's Take of an entry, by its walk. Made by mk_take.py. -/
import Derived.Test.YtebhclgnpnlekaaDec
import Derived.Test.YtebhclgnpnlekaaEnt6
import Derived.Test.YtebhclgnpnlekaaRdValueRef
namespace Go.Proofs.Ytebhclgnpnlekaa.Ent
open Go.RowKit Go.Proofs.Ytebhclgnpnlekaa.B Go.Proofs.Ytebhclgnpnlekaa.Cmd Go.Proofs.Ytebhclgnpnlekaa.Agg Go.Proofs.Ytebhclgnpnlekaa.Rd

theorem Bs.add {w0 w : World} {l : List (Nat × TypeId × Array Value)} {b : Nat} {T : TypeId} {C : Array Value} (h : Bs w0 w l) (hb : w.heap[b]? = some (.cells C T (0, 0))) (h0 : w0.heap.size ≤ b) (hne : ∀ (i : Nat) (x : Nat × TypeId × Array Value), l[i]? = some x → x.1 ≠ b) : Bs w0 w (l ++ [(b, T, C)]) := by
  have key : ∀ (m : Nat) (z : Nat × TypeId × Array Value), (l ++ [(b, T, C)])[m]? = some z → l[m]? = some z ∨ (m = l.length ∧ z = (b, T, C)) := by
    intro m z hm
    rw [List.getElem?_append] at hm
    split at hm
    · exact .inl hm
    · rw [List.getElem?_singleton] at hm
      split at hm
      · exact .inr ⟨by omega, by cases hm; rfl⟩
      · cases hm
  refine ⟨h.below, fun i c T' D hi => ?_, fun i j x y hi hj e => ?_⟩
  · rcases key i _ hi with h1 | ⟨_, h1⟩
    · exact h.at_ i c T' D h1
    · cases h1; exact ⟨hb, h0⟩
  · rcases key i x hi with h1 | ⟨h1, h2⟩ <;> rcases key j y hj with h3 | ⟨h3, h4⟩
    · exact h.ne i j x y h1 h3 e
    · subst h4; exact absurd e (hne i x h1)
    · subst h2; exact absurd e.symm (hne j y h3)
    · omega
theorem DI.alloc {T : TypeId} {w0 w w' : World} {g L0 L1 : Nat} {l l' : List (Nat × TypeId × Array Value)} {st : RSt} (h : DI T w0 g L0 L1 l w st) (hb : Bs w0 w' l') (hbel : Below w.heap.size w w') (ho : ∀ (i b : Nat) (T : TypeId) (C : Array Value), l'[i]? = some (b, T, C) → b < L0 ∨ L1 ≤ b) : DI T w0 g L0 L1 l' w' st :=
  ⟨hb, h.r.below hbel, Nat.le_trans h.hi hbel.size, h.lo, h.g0, h.g1, ho⟩
theorem szErr : (Try.prog.info? 26).map (·.size) = some 1 := by kernel_rfl
/-- What Take leaves of a reader. -/
def takeSt (p : EP) (st : RSt) : RSt := if st.2 = 0 ∧ ¬ (p.fr ≤ 1 ∧ p.dn ≤ 1 ∧ okP p = true) then (st.1, 2) else st
def TakeSaid (g L0 L1 : Nat) (st : RSt) (w : World) (r : Ending) (w' : World) : Prop :=
  ∃ x y z, r = .returned (.agg (erOf (entS st).1 x y z).cells) ∧ Hold (∀ W' M, Fr M w' W' → (∀ k, M k → k < w.heap.size ∨ w'.heap.size ≤ k) → EAt W' (erOf (entS st).1 x y z) (entS st).1.f.2 (entS st).1.a.2 (entS st).1.v.2) ∧ Hold (RAt 40 g (fun k => L0 ≤ k ∧ k < L1) w' (takeSt (entS st).1 (entS st).2)) ∧ Hold (Fr (Its g) w w')
/-- Out of two blocks: a bound for both. -/
theorem two_out {g2 g3 L0 L1 : Nat} {T T' : TypeId} {C C' : Array Value} (h2 : L1 ≤ g2) (h3 : L1 ≤ g3) : ∀ (i b : Nat) (T0 : TypeId) (C0 : Array Value), [(g2, T, C), (g3, T', C')][i]? = some (b, T0, C0) → b < L0 ∨ L1 ≤ b := fun i b T0 C0 hi => by
  rcases i with _ | _ | i
  · simp only [List.getElem?_cons_zero, Option.some.injEq, Prod.mk.injEq] at hi
    omega
  · simp only [List.getElem?_cons_succ, List.getElem?_cons_zero, Option.some.injEq, Prod.mk.injEq] at hi
    omega
  · simp at hi

set_option maxHeartbeats 16000000 in
set_option maxRecDepth 100000 in
theorem take_calls (g L0 L1 : Nat) (w0 w : World) (bs : List Int) (e0 : Int) (hd : DI 40 w0 g L0 L1 [] w (bs, e0)) :
    Calls Try.prog 119 #[.pointer (some ⟨g, 0, none⟩)] w (TakeSaid g L0 L1 (bs, e0) w) := by
  obtain ⟨c1, s1, h1⟩ : ∃ c s, cmdS (bs, e0) = (c, s) := ⟨_, _, rfl⟩
  obtain ⟨pr, s2, h2⟩ : ∃ c s, numS s1 = (c, s) := ⟨_, _, rfl⟩
  obtain ⟨lo, s3, h3⟩ : ∃ c s, numS s2 = (c, s) := ⟨_, _, rfl⟩
  obtain ⟨hi, s4, h4⟩ : ∃ c s, numS s3 = (c, s) := ⟨_, _, rfl⟩
  obtain ⟨f1, f2, s5, h5⟩ : ∃ c d s, valueS s4 = ((c, d), s) := ⟨_, _, _, rfl⟩
  obtain ⟨ab, s6, h6⟩ : ∃ c s, numS s5 = (c, s) := ⟨_, _, rfl⟩
  obtain ⟨a1, a2, s7, h7⟩ : ∃ c d s, valueS s6 = ((c, d), s) := ⟨_, _, _, rfl⟩
  obtain ⟨fr, s8, h8⟩ : ∃ c s, numS s7 = (c, s) := ⟨_, _, rfl⟩
  obtain ⟨dn, s9, h9⟩ : ∃ c s, numS s8 = (c, s) := ⟨_, _, rfl⟩
  obtain ⟨v1, v2, rest, er, h10⟩ : ∃ c d r e, valueS s9 = ((c, d), (r, e)) := ⟨_, _, _, _, rfl⟩
  have HE : Hold (entS (bs, e0) = (⟨c1, pr, lo, hi, (f1, f2), ab, (a1, a2), fr, dn, (v1, v2)⟩, (rest, er))) := ⟨by simp only [entS, h1, h2, h3, h4, h5, h6, h7, h8, h9, h10]⟩
  have K1 := Hold.mk h1
  have K2 := Hold.mk h2
  have K3 := Hold.mk h3
  have K4 := Hold.mk h4
  have K5 := Hold.mk h5
  have K6 := Hold.mk h6
  have K7 := Hold.mk h7
  have K8 := Hold.mk h8
  have K9 := Hold.mk h9
  have K10 := Hold.mk h10
  clear h1 h2 h3 h4 h5 h6 h7 h8 h9 h10
  have D := Hold.mk hd
  have hB := hd.bs
  have HG1 := Hold.mk hd.g1
  clear hd
  go_enter Try.func119, Try.ntmps119
  go_wp2_with (first
    | (refine wpl_allocX zeroD hB rfl ?_; intro W1 g2 hB HA; simp only [List.nil_append] at hB))
  have Hg2 : Hold (w.heap.size ≤ g2 ∧ L1 ≤ g2 ∧ g2 < W1.heap.size) := ⟨by rw [HA.out.2.1]; exact Nat.le_refl _, by rw [HA.out.2.1]; exact D.out.hi, hB.lt 0 rfl⟩
  have D1 : Hold (DI 40 w0 g L0 L1 [(g2, 75, noER.cells)] W1 (bs, e0)) := ⟨D.out.alloc hB HA.out.1 (fun i b T C hi => by
    rcases i with _ | i
    · simp only [List.getElem?_cons_zero, Option.some.injEq, Prod.mk.injEq] at hi
      have := Hg2.out
      omega
    · simp at hi)⟩
  have HF := Hold.mk (Fr.of_below (Its g) HA.out.1)
  clear D HA hB
  refine (refCmd_calls g _ W1 (bs, e0) D1.out.r (fun k hk => Nat.lt_of_lt_of_le hk.2 D1.out.hi)).mono ?_
  rintro r w2 ⟨rfl, hr2, hf2, hw2⟩
  rw [K1.out] at hr2 hw2 ⊢
  have D2 := Hold.mk (D1.out.its hr2 hf2)
  have HWc := Hold.mk hw2
  have Hg2w := Hold.mk (Nat.lt_of_lt_of_le Hg2.out.2.2 hf2.size)
  have HF := Hold.mk (HF.out.trans hf2 (fun _ _ h => h))
  clear D1 hr2 hf2 hw2
  have hB := D2.out.bs
  obtain ⟨E0, hE0⟩ : ∃ E : ER, Hold (E = { noER with c := c1 }) := ⟨_, ⟨rfl⟩⟩
  go_wp2_with (first
    | (refine wpl_allocX zeroD hB rfl ?_; intro W3 g3 hB HA; simp only [List.cons_append, List.nil_append] at hB)
    | (refine wpl_storeX (C' := ER.cells E0) isD rfl (by rw [hE0.out]; rfl) hB 1 rfl (ER.size _) (ER.size _) (ER.one _) rfl ?_; intro X0 hB HFs; simp only [List.set] at hB))
  have Hg3 : Hold (w.heap.size ≤ g3 ∧ L1 ≤ g3 ∧ g2 < g3 ∧ g < g3) := ⟨by
    have h1 := HA.out.2.1
    have h2 := HF.out.size
    have h3 := Hg2w.out
    have h4 := D2.out.hi
    have h5 := HG1.out
    omega⟩
  have D3 := Hold.mk ((D2.out.below HA.out.1).put hB HFs.out (.inr Hg3.out.2.1) (two_out Hg2.out.2.1 Hg3.out.2.1))
  have HF := Hold.mk ((HF.out.trans (Fr.of_below (Its g) HA.out.1) (fun _ _ h => h)).trans HFs.out (fun i hi h => by have := Hg3.out.1; omega))
  have HSz : Hold (g3 + 1 ≤ X0.heap.size) := ⟨hB.lt 1 rfl⟩
  clear D2 HFs HA
  refine (refNum_calls g _ X0 s1 D3.out.r).mono ?_
  intro r Y1 hs
  obtain ⟨rfl, DY1, FY1⟩ := num_di D3.out K2.out hs
  have HWpr := Hold.mk (numS_range D3.out.r.bytes)
  rw [K2.out] at HWpr
  have HF := Hold.mk (HF.out.trans FY1.out (fun _ _ h => h))
  have HSz := Hold.mk (Nat.le_trans HSz.out FY1.out.size)
  clear hs D3
  have hB := DY1.out.bs
  obtain ⟨Epr, hEpr⟩ : ∃ E : ER, Hold (E = { E0 with pr := pr }) := ⟨_, ⟨rfl⟩⟩
  go_wp2_with (first
    | (refine wpl_storeFX (C' := ER.cells Epr) (V := #[.int .i64 pr]) szInt rfl rfl rfl hB 1 rfl rfl (by rw [ER.size]; omega) one_int (by rw [hEpr.out]; rfl) rfl ?_; intro Zpr hB HSpr; simp only [List.set] at hB))
  have HF := Hold.mk (HF.out.trans HSpr.out (fun i hi h => by have := Hg3.out.1; omega))
  have HSz := Hold.mk (Nat.le_trans HSz.out HSpr.out.size)
  have DS2 := Hold.mk (DY1.out.put hB HSpr.out (.inr Hg3.out.2.1) (two_out Hg2.out.2.1 Hg3.out.2.1))
  clear HSpr DY1
  refine (refNum_calls g _ Zpr s2 DS2.out.r).mono ?_
  intro r Y3 hs
  obtain ⟨rfl, DY3, FY3⟩ := num_di DS2.out K3.out hs
  have HWlo := Hold.mk (numS_range DS2.out.r.bytes)
  rw [K3.out] at HWlo
  have HF := Hold.mk (HF.out.trans FY3.out (fun _ _ h => h))
  have HSz := Hold.mk (Nat.le_trans HSz.out FY3.out.size)
  clear hs DS2
  have hB := DY3.out.bs
  obtain ⟨Elo, hElo⟩ : ∃ E : ER, Hold (E = { Epr with lo := lo }) := ⟨_, ⟨rfl⟩⟩
  go_wp2_with (first
    | (refine wpl_storeFX (C' := ER.cells Elo) (V := #[.int .i64 lo]) szInt rfl rfl rfl hB 1 rfl rfl (by rw [ER.size]; omega) one_int (by rw [hElo.out]; rfl) rfl ?_; intro Zlo hB HSlo; simp only [List.set] at hB))
  have HF := Hold.mk (HF.out.trans HSlo.out (fun i hi h => by have := Hg3.out.1; omega))
  have HSz := Hold.mk (Nat.le_trans HSz.out HSlo.out.size)
  have DS4 := Hold.mk (DY3.out.put hB HSlo.out (.inr Hg3.out.2.1) (two_out Hg2.out.2.1 Hg3.out.2.1))
  clear HSlo DY3
  refine (refNum_calls g _ Zlo s3 DS4.out.r).mono ?_
  intro r Y5 hs
  obtain ⟨rfl, DY5, FY5⟩ := num_di DS4.out K4.out hs
  have HWhi := Hold.mk (numS_range DS4.out.r.bytes)
  rw [K4.out] at HWhi
  have HF := Hold.mk (HF.out.trans FY5.out (fun _ _ h => h))
  have HSz := Hold.mk (Nat.le_trans HSz.out FY5.out.size)
  clear hs DS4
  have hB := DY5.out.bs
  obtain ⟨Ehi, hEhi⟩ : ∃ E : ER, Hold (E = { Elo with hi := hi }) := ⟨_, ⟨rfl⟩⟩
  go_wp2_with (first
    | (refine wpl_storeFX (C' := ER.cells Ehi) (V := #[.int .i64 hi]) szInt rfl rfl rfl hB 1 rfl rfl (by rw [ER.size]; omega) one_int (by rw [hEhi.out]; rfl) rfl ?_; intro Zhi hB HShi; simp only [List.set] at hB))
  have HF := Hold.mk (HF.out.trans HShi.out (fun i hi h => by have := Hg3.out.1; omega))
  have HSz := Hold.mk (Nat.le_trans HSz.out HShi.out.size)
  have DS6 := Hold.mk (DY5.out.put hB HShi.out (.inr Hg3.out.2.1) (two_out Hg2.out.2.1 Hg3.out.2.1))
  clear HShi DY5
  go_wp2_with fail
  refine (refValue_calls g _ Zhi s4 DS6.out.r (fun k hk => Nat.lt_of_lt_of_le hk.2 DS6.out.hi)).mono ?_
  intro r Y7 hs
  obtain ⟨Af, ef, rfl, Vf, DY7, FY7⟩ := value_vo DS6.out K5.out hs
  have Vf := Hold.mk (Vf.out.lower HSz.out)
  have HF := Hold.mk (HF.out.trans FY7.out (fun _ _ h => h))
  have HSz := Hold.mk (Nat.le_trans HSz.out FY7.out.size)
  clear hs DS6
  have hB := DY7.out.bs
  obtain ⟨Ef, hEf⟩ : ∃ E : ER, Hold (E = { Ehi with f := ⟨f1, Af, f2.length, ef⟩ }) := ⟨_, ⟨rfl⟩⟩
  go_wp2_with (first
    | (refine wpl_storeFX (C' := ER.cells Ef) (V := (VR.cells ⟨f1, Af, f2.length, ef⟩)) isV.size rfl rfl rfl hB 1 rfl rfl (by rw [ER.size]; omega) (VR.ones ⟨f1, Af, f2.length, ef⟩) (by rw [hEf.out]; rfl) rfl ?_; intro Zf hB HSf; simp only [List.set] at hB))
  have Vf := Hold.mk (Vf.out.step HSf.out (fun k hk => .inl (by omega)))
  have HF := Hold.mk (HF.out.trans HSf.out (fun i hi h => by have := Hg3.out.1; omega))
  have HSz := Hold.mk (Nat.le_trans HSz.out HSf.out.size)
  have DS8 := Hold.mk (DY7.out.put hB HSf.out (.inr Hg3.out.2.1) (two_out Hg2.out.2.1 Hg3.out.2.1))
  clear HSf DY7
  refine (refNum_calls g _ Zf s5 DS8.out.r).mono ?_
  intro r Y9 hs
  obtain ⟨rfl, DY9, FY9⟩ := num_di DS8.out K6.out hs
  have HWab := Hold.mk (numS_range DS8.out.r.bytes)
  rw [K6.out] at HWab
  have Vf := Hold.mk (Vf.out.step FY9.out (fun k hk => .inl (by obtain rfl : k = g := hk; have := Hg3.out.2.2.2; omega)))
  have HF := Hold.mk (HF.out.trans FY9.out (fun _ _ h => h))
  have HSz := Hold.mk (Nat.le_trans HSz.out FY9.out.size)
  clear hs DS8
  have hB := DY9.out.bs
  obtain ⟨Eab, hEab⟩ : ∃ E : ER, Hold (E = { Ef with ab := ab }) := ⟨_, ⟨rfl⟩⟩
  go_wp2_with (first
    | (refine wpl_storeFX (C' := ER.cells Eab) (V := #[.int .i64 ab]) szInt rfl rfl rfl hB 1 rfl rfl (by rw [ER.size]; omega) one_int (by rw [hEab.out]; rfl) rfl ?_; intro Zab hB HSab; simp only [List.set] at hB))
  have Vf := Hold.mk (Vf.out.step HSab.out (fun k hk => .inl (by omega)))
  have HF := Hold.mk (HF.out.trans HSab.out (fun i hi h => by have := Hg3.out.1; omega))
  have HSz := Hold.mk (Nat.le_trans HSz.out HSab.out.size)
  have DS10 := Hold.mk (DY9.out.put hB HSab.out (.inr Hg3.out.2.1) (two_out Hg2.out.2.1 Hg3.out.2.1))
  clear HSab DY9
  go_wp2_with fail
  refine (refValue_calls g _ Zab s6 DS10.out.r (fun k hk => Nat.lt_of_lt_of_le hk.2 DS10.out.hi)).mono ?_
  intro r Y11 hs
  obtain ⟨Aa, ea, rfl, Va, DY11, FY11⟩ := value_vo DS10.out K7.out hs
  have Va := Hold.mk (Va.out.lower HSz.out)
  have Vf := Hold.mk (Vf.out.step FY11.out (fun k hk => .inl (by obtain rfl : k = g := hk; have := Hg3.out.2.2.2; omega)))
  have HF := Hold.mk (HF.out.trans FY11.out (fun _ _ h => h))
  have HSz := Hold.mk (Nat.le_trans HSz.out FY11.out.size)
  clear hs DS10
  have hB := DY11.out.bs
  obtain ⟨Ea, hEa⟩ : ∃ E : ER, Hold (E = { Eab with a := ⟨a1, Aa, a2.length, ea⟩ }) := ⟨_, ⟨rfl⟩⟩
  go_wp2_with (first
    | (refine wpl_storeFX (C' := ER.cells Ea) (V := (VR.cells ⟨a1, Aa, a2.length, ea⟩)) isV.size rfl rfl rfl hB 1 rfl rfl (by rw [ER.size]; omega) (VR.ones ⟨a1, Aa, a2.length, ea⟩) (by rw [hEa.out]; rfl) rfl ?_; intro Za hB HSa; simp only [List.set] at hB))
  have Vf := Hold.mk (Vf.out.step HSa.out (fun k hk => .inl (by omega)))
  have Va := Hold.mk (Va.out.step HSa.out (fun k hk => .inl (by omega)))
  have HF := Hold.mk (HF.out.trans HSa.out (fun i hi h => by have := Hg3.out.1; omega))
  have HSz := Hold.mk (Nat.le_trans HSz.out HSa.out.size)
  have DS12 := Hold.mk (DY11.out.put hB HSa.out (.inr Hg3.out.2.1) (two_out Hg2.out.2.1 Hg3.out.2.1))
  clear HSa DY11
  refine (refNum_calls g _ Za s7 DS12.out.r).mono ?_
  intro r Y13 hs
  obtain ⟨rfl, DY13, FY13⟩ := num_di DS12.out K8.out hs
  have HWfr := Hold.mk (numS_range DS12.out.r.bytes)
  rw [K8.out] at HWfr
  have Vf := Hold.mk (Vf.out.step FY13.out (fun k hk => .inl (by obtain rfl : k = g := hk; have := Hg3.out.2.2.2; omega)))
  have Va := Hold.mk (Va.out.step FY13.out (fun k hk => .inl (by obtain rfl : k = g := hk; have := Hg3.out.2.2.2; omega)))
  have HF := Hold.mk (HF.out.trans FY13.out (fun _ _ h => h))
  have HSz := Hold.mk (Nat.le_trans HSz.out FY13.out.size)
  clear hs DS12
  go_wp2_with fail
  refine (refNum_calls g _ Y13 s8 DY13.out.r).mono ?_
  intro r Y14 hs
  obtain ⟨rfl, DY14, FY14⟩ := num_di DY13.out K9.out hs
  have HWdn := Hold.mk (numS_range DY13.out.r.bytes)
  rw [K9.out] at HWdn
  have Vf := Hold.mk (Vf.out.step FY14.out (fun k hk => .inl (by obtain rfl : k = g := hk; have := Hg3.out.2.2.2; omega)))
  have Va := Hold.mk (Va.out.step FY14.out (fun k hk => .inl (by obtain rfl : k = g := hk; have := Hg3.out.2.2.2; omega)))
  have HF := Hold.mk (HF.out.trans FY14.out (fun _ _ h => h))
  have HSz := Hold.mk (Nat.le_trans HSz.out FY14.out.size)
  clear hs DY13
  go_wp2_with fail
  refine (refValue_calls g _ Y14 s9 DY14.out.r (fun k hk => Nat.lt_of_lt_of_le hk.2 DY14.out.hi)).mono ?_
  intro r Y15 hs
  obtain ⟨Av, ev, rfl, Vv, DY15, FY15⟩ := value_vo DY14.out K10.out hs
  have Vv := Hold.mk (Vv.out.lower HSz.out)
  have Vf := Hold.mk (Vf.out.step FY15.out (fun k hk => .inl (by obtain rfl : k = g := hk; have := Hg3.out.2.2.2; omega)))
  have Va := Hold.mk (Va.out.step FY15.out (fun k hk => .inl (by obtain rfl : k = g := hk; have := Hg3.out.2.2.2; omega)))
  have HF := Hold.mk (HF.out.trans FY15.out (fun _ _ h => h))
  have HSz := Hold.mk (Nat.le_trans HSz.out FY15.out.size)
  clear hs DY14
  have hB := DY15.out.bs
  obtain ⟨Ev, hEv⟩ : ∃ E : ER, Hold (E = { Ea with v := ⟨v1, Av, v2.length, ev⟩ }) := ⟨_, ⟨rfl⟩⟩
  obtain ⟨Efr, hEfr⟩ : ∃ E : ER, Hold (E = { Ev with fr := fr == 1 }) := ⟨_, ⟨rfl⟩⟩
  obtain ⟨Edn, hEdn⟩ : ∃ E : ER, Hold (E = { Efr with dn := dn == 1 }) := ⟨_, ⟨rfl⟩⟩
  go_wp2_with (first
    | (refine wpl_storeFX (C' := ER.cells Ev) (V := (VR.cells ⟨v1, Av, v2.length, ev⟩)) isV.size rfl rfl rfl hB 1 rfl rfl (by rw [ER.size]; omega) (VR.ones ⟨v1, Av, v2.length, ev⟩) (by rw [hEv.out]; rfl) rfl ?_; intro Zv hB HSv; simp only [List.set] at hB)
    | (refine wpl_storeFX (C' := ER.cells Efr) (V := #[.bool (fr == 1)]) szBool rfl rfl rfl hB 1 rfl rfl (by rw [ER.size]; omega) one_bool (by rw [hEfr.out]; rfl) rfl ?_; intro Zfr hB HSfr; simp only [List.set] at hB)
    | (refine wpl_storeFX (C' := ER.cells Edn) (V := #[.bool (dn == 1)]) szBool rfl rfl rfl hB 1 rfl rfl (by rw [ER.size]; omega) one_bool (by rw [hEdn.out]; rfl) rfl ?_; intro Zdn hB HSdn; simp only [List.set] at hB)
    | (refine wpl_load isD rfl hB 1 rfl (ER.size _) rfl ?_))
  have Vf := Hold.mk (Vf.out.step HSv.out (fun k hk => .inl (by omega)))
  have Va := Hold.mk (Va.out.step HSv.out (fun k hk => .inl (by omega)))
  have Vv := Hold.mk (Vv.out.step HSv.out (fun k hk => .inl (by omega)))
  have HF := Hold.mk (HF.out.trans HSv.out (fun i hi h => by have := Hg3.out.1; omega))
  have HSz := Hold.mk (Nat.le_trans HSz.out HSv.out.size)
  have Vf := Hold.mk (Vf.out.step HSfr.out (fun k hk => .inl (by omega)))
  have Va := Hold.mk (Va.out.step HSfr.out (fun k hk => .inl (by omega)))
  have Vv := Hold.mk (Vv.out.step HSfr.out (fun k hk => .inl (by omega)))
  have HF := Hold.mk (HF.out.trans HSfr.out (fun i hi h => by have := Hg3.out.1; omega))
  have HSz := Hold.mk (Nat.le_trans HSz.out HSfr.out.size)
  have Vf := Hold.mk (Vf.out.step HSdn.out (fun k hk => .inl (by omega)))
  have Va := Hold.mk (Va.out.step HSdn.out (fun k hk => .inl (by omega)))
  have Vv := Hold.mk (Vv.out.step HSdn.out (fun k hk => .inl (by omega)))
  have HF := Hold.mk (HF.out.trans HSdn.out (fun i hi h => by have := Hg3.out.1; omega))
  have HSz := Hold.mk (Nat.le_trans HSz.out HSdn.out.size)
  have DS16 := Hold.mk (DY15.out.put hB ((HSv.out.trans HSfr.out (fun _ _ h => h)).trans HSdn.out (fun _ _ h => h)) (.inr Hg3.out.2.1) (two_out Hg2.out.2.1 Hg3.out.2.1))
  clear HSv HSfr HSdn DY15
  obtain ⟨p, hp⟩ : ∃ p : EP, p = ⟨c1, pr, lo, hi, (f1, f2), ab, (a1, a2), fr, dn, (v1, v2)⟩ := ⟨_, rfl⟩
  have HEr : Hold (Edn = erOf p (Af, ef) (Aa, ea) (Av, ev)) := ⟨by rw [hEdn.out, hEfr.out, hEv.out, hEa.out, hEab.out, hEf.out, hEhi.out, hElo.out, hEpr.out, hE0.out, hp]; rfl⟩
  have HEn : Hold (entS (bs, e0) = (p, (rest, er))) := ⟨by rw [HE.out, hp]⟩
  have HEall : Hold (∀ W', VAt W' ⟨f1, Af, f2.length, ef⟩ f2 → VAt W' ⟨a1, Aa, a2.length, ea⟩ a2 → VAt W' ⟨v1, Av, v2.length, ev⟩ v2 → EAt W' Edn f2 a2 v2) := ⟨fun W' q1 q2 q3 => by
    rw [hEdn.out, hEfr.out, hEv.out, hEa.out, hEab.out, hEf.out, hEhi.out, hElo.out, hEpr.out, hE0.out]
    exact ⟨HWc.out, wf_num HWpr.out, wf_num HWlo.out, wf_num HWhi.out, wf_num HWab.out, q1, q2, q3⟩⟩
  have Hp : Hold (p.f.2 = f2 ∧ p.a.2 = a2 ∧ p.v.2 = v2 ∧ p.fr = fr ∧ p.dn = dn) := ⟨by rw [hp]; exact ⟨rfl, rfl, rfl, rfl, rfl⟩⟩
  have HEA := Hold.mk (HEall.out _ Vf.out.at Va.out.at Vv.out.at)
  clear hEdn hEfr hEv hEa hEab hEf hEhi hElo hEpr hE0 hp HE HWpr HWlo HWhi HWab HWfr HWdn HWc
  obtain ⟨okp, hokp⟩ : ∃ b, okP p = b := ⟨_, rfl⟩
  have HOk : Hold (okE Edn f2 a2 v2 = okp) := ⟨by rw [HEr.out, ← hokp, ← Hp.out.1, ← Hp.out.2.1, ← Hp.out.2.2.1]; rfl⟩
  have HD : Hold (takeSt p (rest, er) = if er = 0 ∧ ¬ (fr ≤ 1 ∧ dn ≤ 1 ∧ okp = true) then (rest, 2) else (rest, er)) := ⟨by
    rw [takeSt, ← hokp, Hp.out.2.2.2.1, Hp.out.2.2.2.2]⟩
  clear hokp
  refine (refRight_calls Edn f2 a2 v2 _ okp HEA.out HOk.out).mono ?_
  rintro r W6 ⟨rfl, hb6⟩
  have D6 := Hold.mk (DS16.out.below hb6)
  have HF := Hold.mk (HF.out.trans (Fr.of_below (Its g) hb6) (fun _ _ h => h))
  have V1 := Hold.mk (Vf.out.step (Fr.of_below nob hb6) (fun k hk => hk.elim))
  have V2 := Hold.mk (Va.out.step (Fr.of_below nob hb6) (fun k hk => hk.elim))
  have V3 := Hold.mk (Vv.out.step (Fr.of_below nob hb6) (fun k hk => hk.elim))
  clear DS16 hb6 HEA
  have HRA := Hold.mk D6.out.r
  obtain ⟨A7, c7, hb7, hl7, hn7, hr7⟩ := D6.out.r
  have hB : Bs w0 W6 [(g2, 75, noER.cells), (g3, 75, Edn.cells), (g, 40, #[.slice A7 rest.length c7, .int .i64 er])] := Bs.add D6.out.bs hb7 (Nat.le_trans D6.out.lo D6.out.g0) (fun i x hi he => by
    have h1 := Hg2.out
    have h2 := Hg3.out
    have h3 := HG1.out
    rcases i with _ | _ | i
    · simp only [List.getElem?_cons_zero, Option.some.injEq] at hi; subst hi; dsimp only at he; omega
    · simp only [List.getElem?_cons_succ, List.getElem?_cons_zero, Option.some.injEq] at hi; subst hi; dsimp only at he; omega
    · simp at hi)
  have HR7 : Hold (∀ W' e', W'.heap[g]? = some (.cells #[.slice A7 rest.length c7, .int .i64 e'] 40 (0, 0)) → Fr (fun k => k = g ∨ k = g2) W6 W' → RAt 40 g (fun k => L0 ≤ k ∧ k < L1) W' (rest, e')) := ⟨fun W' e' hb hf =>
    ⟨A7, c7, hb, hl7, hn7, hr7.move fun k hk hlt => ⟨hk, hf.block k hlt (fun hm => by
      rcases hm with hm | hm
      · exact hk.1 hm
      · have := hk.2.2; have := Hg2.out; omega)⟩⟩⟩
  have HEnd : Hold (∀ W' e', Bs w0 W' [(g2, 75, Edn.cells), (g3, 75, Edn.cells), (g, 40, #[.slice A7 rest.length c7, .int .i64 e'])] → Fr (fun k => k = g ∨ k = g2) W6 W' → takeSt p (rest, er) = (rest, e') → TakeSaid g L0 L1 (bs, e0) w (.returned (.agg Edn.cells)) W') := ⟨fun W' e' hB' hf he => by
    have hv : ∀ {hi : Nat} {v : VR} {l : List CmdD}, VO (g3 + 1) hi W6 v l → ∀ W2 M, Fr M W' W2 → (∀ k, M k → k < w.heap.size ∨ W'.heap.size ≤ k) → VAt W2 v l := fun q W2 M h2 hm => by
      have q1 := q.step hf (fun k hk => .inl (by have := Hg3.out; rcases hk with hk | hk <;> omega))
      have q2 : VO (g3 + 1) W'.heap.size W' _ _ := ⟨q1.own, fun k hk => (q1.own.block_lt k hk).2, q1.len, q1.wf⟩
      exact (q2.step h2 (fun k hk => by have := Hg3.out.1; have := hm k hk; omega)).at
    have hE := fun W2 M h2 hm => HEall.out W2 (hv V1.out W2 M h2 hm) (hv V2.out W2 M h2 hm) (hv V3.out W2 M h2 hm)
    refine ⟨(Af, ef), (Aa, ea), (Av, ev), ?_, ⟨?_⟩, ⟨?_⟩, ⟨HF.out.trans hf (fun i hi h => by have := Hg2.out.1; rcases h with h | h; exact h; omega)⟩⟩
    · rw [HEn.out]
      show _ = Ending.returned (.agg (erOf p (Af, ef) (Aa, ea) (Av, ev)).cells)
      rw [← HEr.out]
    · rw [HEn.out]
      dsimp only
      rw [← HEr.out, Hp.out.1, Hp.out.2.1, Hp.out.2.2.1]
      exact hE
    · rw [HEn.out]
      dsimp only
      rw [he]
      exact HR7.out W' e' (hB'.at_ 2 _ _ _ rfl).1 hf⟩
  have hc := hB.cell 2 rfl 1
  have hf := hB.fz 2 rfl 1
  clear hb7 hl7 hn7 hr7 HR7 HRA HEall V1 V2 V3 Vf Va Vv
  have hc1 : W6.cell? ⟨g, 1, none⟩ = some (.int .i64 er) := hc
  clear hc
  have HL2 : Hold (∀ {W' : World}, Fr (fun k => k = g) W6 W' → Fr (fun k => k = g ∨ k = g2) W6 W') := ⟨fun h => h.mono fun _ _ h => .inl h⟩
  by_cases k1 : er = 0
  · subst k1
    have t1 : ((0 : Int) == 0) = true := rfl
    by_cases k3 : 1 < fr
    · have t3 : decide (1 < fr) = true := decide_eq_true k3
      have HDn : Hold (takeSt p (rest, 0) = (rest, 2)) := ⟨by rw [HD.out, if_pos]; exact ⟨rfl, fun h => by omega⟩⟩
      clear HD k3
      go_wp2_with (first | (with_reducible refine gateS 26 ?_; refine wpl_storeFX (C' := #[.slice A7 rest.length c7, .int .i64 2]) (V := #[.int .i64 2]) szErr rfl rfl rfl hB 2 rfl rfl (Nat.le_refl 2) one_int rfl rfl ?_; intro X8 hB HF8; simp only [List.set] at hB) | (with_reducible refine gateL 75 ?_; refine wpl_load isD rfl hB 1 rfl (ER.size _) rfl ?_) | (with_reducible refine gateS 75 ?_; refine wpl_storeX (C' := ER.cells Edn) isD rfl rfl hB 0 rfl (ER.size _) (ER.size _) (ER.one _) rfl ?_; intro X9 hB HF9; simp only [List.set] at hB)); exact bodyPost_ret (res_one rfl rfl isD hB 0 rfl (ER.size _)) rfl (HEnd.out _ _ hB ((HF8.out.mono fun _ _ h => .inl h).trans (HF9.out.mono fun _ _ h => .inr h) fun _ _ h => h) HDn.out)
    · have t3 : decide (1 < fr) = false := decide_eq_false k3
      by_cases k4 : 1 < dn
      · have t4 : decide (1 < dn) = true := decide_eq_true k4
        have HDn : Hold (takeSt p (rest, 0) = (rest, 2)) := ⟨by rw [HD.out, if_pos]; exact ⟨rfl, fun h => by omega⟩⟩
        clear HD k3 k4
        go_wp2_with (first | (with_reducible refine gateS 26 ?_; refine wpl_storeFX (C' := #[.slice A7 rest.length c7, .int .i64 2]) (V := #[.int .i64 2]) szErr rfl rfl rfl hB 2 rfl rfl (Nat.le_refl 2) one_int rfl rfl ?_; intro X8 hB HF8; simp only [List.set] at hB) | (with_reducible refine gateL 75 ?_; refine wpl_load isD rfl hB 1 rfl (ER.size _) rfl ?_) | (with_reducible refine gateS 75 ?_; refine wpl_storeX (C' := ER.cells Edn) isD rfl rfl hB 0 rfl (ER.size _) (ER.size _) (ER.one _) rfl ?_; intro X9 hB HF9; simp only [List.set] at hB)); exact bodyPost_ret (res_one rfl rfl isD hB 0 rfl (ER.size _)) rfl (HEnd.out _ _ hB ((HF8.out.mono fun _ _ h => .inl h).trans (HF9.out.mono fun _ _ h => .inr h) fun _ _ h => h) HDn.out)
      · have t4 : decide (1 < dn) = false := decide_eq_false k4
        cases okp
        · have HDn : Hold (takeSt p (rest, 0) = (rest, 2)) := ⟨by rw [HD.out, if_pos]; exact ⟨rfl, fun h => by cases h.2.2⟩⟩
          clear HD k3 k4
          go_wp2_with (first | (with_reducible refine gateS 26 ?_; refine wpl_storeFX (C' := #[.slice A7 rest.length c7, .int .i64 2]) (V := #[.int .i64 2]) szErr rfl rfl rfl hB 2 rfl rfl (Nat.le_refl 2) one_int rfl rfl ?_; intro X8 hB HF8; simp only [List.set] at hB) | (with_reducible refine gateL 75 ?_; refine wpl_load isD rfl hB 1 rfl (ER.size _) rfl ?_) | (with_reducible refine gateS 75 ?_; refine wpl_storeX (C' := ER.cells Edn) isD rfl rfl hB 0 rfl (ER.size _) (ER.size _) (ER.one _) rfl ?_; intro X9 hB HF9; simp only [List.set] at hB)); exact bodyPost_ret (res_one rfl rfl isD hB 0 rfl (ER.size _)) rfl (HEnd.out _ _ hB ((HF8.out.mono fun _ _ h => .inl h).trans (HF9.out.mono fun _ _ h => .inr h) fun _ _ h => h) HDn.out)
        · have HDn : Hold (takeSt p (rest, 0) = (rest, 0)) := ⟨by rw [HD.out, if_neg]; exact fun h => h.2 ⟨by omega, by omega, rfl⟩⟩
          clear HD k3 k4
          go_wp2_with (first | (with_reducible refine gateL 75 ?_; refine wpl_load isD rfl hB 1 rfl (ER.size _) rfl ?_) | (with_reducible refine gateS 75 ?_; refine wpl_storeX (C' := ER.cells Edn) isD rfl rfl hB 0 rfl (ER.size _) (ER.size _) (ER.one _) rfl ?_; intro X9 hB HF9; simp only [List.set] at hB)); exact bodyPost_ret (res_one rfl rfl isD hB 0 rfl (ER.size _)) rfl (HEnd.out _ _ hB (HF9.out.mono fun _ _ h => .inr h) HDn.out)
  · have t1 : (er == 0) = false := by simpa using k1
    have HDn : Hold (takeSt p (rest, er) = (rest, er)) := ⟨by rw [HD.out, if_neg (fun h => k1 h.1)]⟩
    clear HD k1
    go_wp2_with (first | (with_reducible refine gateL 75 ?_; refine wpl_load isD rfl hB 1 rfl (ER.size _) rfl ?_) | (with_reducible refine gateS 75 ?_; refine wpl_storeX (C' := ER.cells Edn) isD rfl rfl hB 0 rfl (ER.size _) (ER.size _) (ER.one _) rfl ?_; intro X9 hB HF9; simp only [List.set] at hB)); exact bodyPost_ret (res_one rfl rfl isD hB 0 rfl (ER.size _)) rfl (HEnd.out _ _ hB (HF9.out.mono fun _ _ h => .inr h) HDn.out)
end Go.Proofs.Ytebhclgnpnlekaa.Ent
