/- package entry's Decode, by its walk. -/
import Derived.Test.YtebhclgnpnlekaaEntJoin
import Derived.Test.YtebhclgnpnlekaaRdValue
import Derived.Test.YtebhclgnpnlekaaOctBack
import Derived.Test.YtebhclgnpnlekaaEncRef
namespace Go.Proofs.Ytebhclgnpnlekaa.Ent
open Go.RowKit Go.Proofs.Ytebhclgnpnlekaa.B Go.Proofs.Ytebhclgnpnlekaa.Cmd Go.Proofs.Ytebhclgnpnlekaa.Agg Go.Proofs.Ytebhclgnpnlekaa.Rd
open Go.Proofs.Ytebhclgnpnlekaa.OctBack (RAt.tight)

section
variable {P : Program} {ops : Array Oper} {rest : List Oper} {a : Act} {w0 w : World} {Q : Exit → Act → World → Prop} {dst : Option Tmp} {T T' ty : TypeId} {pos : String} {after : Array Edge} {gd : Option (Nat × Bool)} {x y : Operand} {b n i o : Nat} {C C' : Array Value} {l : List (Nat × TypeId × Array Value)}
/-- A store of a whole struct; nothing else turns. -/
theorem wpl_storeX (hT : IsStruct P T n) (hx : a.eval x = .pointer (some ⟨b, 0, none⟩)) (hy : a.eval y = .agg C') (hB : Bs w0 w l) (i : Nat) (hi : l[i]? = some (b, T', C)) (hs : C.size = n) (hs' : C'.size = n) (h1 : C'.all (·.oneCell') = true) (hw : Region.wanted ⟨dst, .store T x y, ty, pos, after, gd⟩ (yielded ops a.tmps) = true)
    (h : ∀ w', Bs w0 w' (l.set i (b, T', C')) → Hold (Fr (fun k => k = b) w w') → wpList P ops Q rest (a.put dst undef) w') : wpList P ops Q (⟨dst, .store T x y, ty, pos, after, gd⟩ :: rest) a w := by
  refine wpList_step fun K hK => ?_
  rw [if_pos hw]
  have hb := (hB.at_ i b T' C hi).1
  unfold Oper.wp execOp
  simp only [hx, hy, Sem.run_bind, store_run hT hb hs hs' h1, Result.andThen_ok, Sem.run_pure]
  exact hK _ _ (h _ (hB.put hi (fr_setRow w b C') (setRow_heap w b C C' T' (0, 0) hb)) ⟨fr_setRow w b C'⟩)
theorem wpl_storeFX {m : Nat} {v : Value} {V : Array Value} (hT : (P.info? T).map (·.size) = some m) (hx : a.eval x = .pointer (some ⟨b, o, none⟩)) (hy : a.eval y = v) (hv : v.cells = V) (hB : Bs w0 w l) (i : Nat) (hi : l[i]? = some (b, T', C)) (hV : V.size = m) (hs : o + m ≤ C.size) (h1 : ∀ u ∈ V.toList, u.oneCell' = true) (hC : (C.toList.take o ++ V.toList ++ C.toList.drop (o + m)).toArray = C') (hw : Region.wanted ⟨dst, .store T x y, ty, pos, after, gd⟩ (yielded ops a.tmps) = true)
    (h : ∀ w', Bs w0 w' (l.set i (b, T', C')) → Hold (Fr (fun k => k = b) w w') → wpList P ops Q rest (a.put dst undef) w') : wpList P ops Q (⟨dst, .store T x y, ty, pos, after, gd⟩ :: rest) a w := by
  refine wpList_step fun K hK => ?_
  rw [if_pos hw]
  have hb := (hB.at_ i b T' C hi).1
  have hst := run_storeCells_at (P := P) b o T' V.toList 0 C w hb (by simp; omega) h1
  have hvl : V.toList.length = m := by simpa using hV
  rw [hvl, Nat.add_zero, hC] at hst
  have hst2 : (storeVar T ⟨b, o, none⟩ v).run P w = .ok () (w.setRow b C') := by
    cases hq : P.info? T with
    | none => simp [hq] at hT
    | some inf =>
      have hsz : inf.size = m := by simpa [hq] using hT
      simp [storeVar, sizeOf, typeInfo, hq, hv, hV, hsz, hst]
  unfold Oper.wp execOp
  simp only [hx, hy, Sem.run_bind, Instr.storeAt, Instr.sureAddr, Sem.run_pure, hst2, Result.andThen_ok]
  exact hK _ _ (h _ (hB.put hi (fr_setRow w b C') (setRow_heap w b C C' T' (0, 0) hb)) ⟨fr_setRow w b C'⟩)
/-- A variable of its own, at the end of memory. -/
theorem wpl_allocX {Z : Array Value} (hz : (P.info? T).map (fun i => i.zero) = some (some (.agg Z))) (hB : Bs w0 w l) (hw : Region.wanted ⟨dst, .alloc T, ty, pos, after, gd⟩ (yielded ops a.tmps) = true)
    (h : ∀ w' g', Bs w0 w' (l ++ [(g', T, Z)]) → Hold (Below w.heap.size w w' ∧ g' = w.heap.size ∧ w'.heap.size = w.heap.size + 1) → wpList P ops Q rest (a.put dst (.pointer (some ⟨g', 0, none⟩))) w') : wpList P ops Q (⟨dst, .alloc T, ty, pos, after, gd⟩ :: rest) a w := by
  refine wpList_step fun K hK => ?_
  rw [if_pos hw]
  have hzv : (zeroValue T).run P w = .ok (.agg Z) w := by
    cases hq : P.info? T with
    | none => simp [hq] at hz
    | some i =>
      have : i.zero = some (.agg Z) := by simpa [hq] using hz
      simp [zeroValue, typeInfo, hq, this]
  have hal : (Instr.alloc T true (.tuple #[])).run P w = .ok (.pointer (some ⟨w.heap.size, 0, none⟩)) (w.alloc (.cells Z T)) := by
    simp [Instr.alloc, Sem.run_bind, hzv, newVar, newRow, newObj, Value.cells]
    rfl
  unfold Oper.wp execOp
  simp only [Sem.run_bind, hal, Result.andThen_ok, Sem.run_pure]
  exact hK _ _ (h _ _ (hB.alloc Z T) ⟨(Below.refl _ _).alloc (Nat.le_refl _) _, rfl, by simp⟩)
end

/-- A value that was read into blocks of the call's own, between two bounds. -/
structure VO (lo hi : Nat) (w : World) (v : VR) (l : List CmdD) : Prop where
  own : Rep.Own cmdRep 45 lo nob w (.slice v.A v.n v.c) l
  up : ∀ k, (Value.slice v.A v.n v.c).ownBlock = some k → k < hi
  len : v.n = l.length
  wf : (Lit.int .i64 v.t).wf = true
theorem VO.step {lo hi : Nat} {w w' : World} {v : VR} {l : List CmdD} {M : Nat → Prop} (h : VO lo hi w v l) (hf : Fr M w w') (hM : ∀ k, M k → k < lo ∨ hi ≤ k) : VO lo hi w' v l :=
  ⟨h.own.move (fun k hk => hf.block k (h.own.block_lt k hk).2 (fun hm => by
      have h1 := (h.own.block_lt k hk).1
      have h2 := h.up k hk
      have := hM k hm
      omega)) (fun _ hk _ _ => hk.elim), h.up, h.len, h.wf⟩
theorem VO.at {lo hi : Nat} {w : World} {v : VR} {l : List CmdD} (h : VO lo hi w v l) : VAt w v l := ⟨h.len, h.own.row.move fun _ _ _ => ⟨trivial, rfl⟩, h.wf⟩
theorem VO.lower {lo lo' hi : Nat} {w : World} {v : VR} {l : List CmdD} (h : VO lo hi w v l) (hh : lo' ≤ lo) : VO lo' hi w v l := ⟨h.own.lower hh, h.up, h.len, h.wf⟩
theorem VO.its {L1 hi g : Nat} {w w' : World} {v : VR} {l : List CmdD} (h : VO L1 hi w v l) (hf : Fr (Its g) w w') (hg : g < L1) : VO L1 hi w' v l := h.step hf fun k hk => .inl (by
  obtain rfl : k = g := hk
  exact hg)
theorem VO.mono {lo hi hi' : Nat} {w : World} {v : VR} {l : List CmdD} (h : VO lo hi w v l) (hh : hi ≤ hi') : VO lo hi' w v l := ⟨h.own, fun k hk => Nat.lt_of_lt_of_le (h.up k hk) hh, h.len, h.wf⟩

/-- A reader at g, and blocks of the call's own beside it. -/
structure DI (T : TypeId) (w0 : World) (g L0 L1 : Nat) (l : List (Nat × TypeId × Array Value)) (w : World) (st : RSt) : Prop where
  bs : Bs w0 w l
  r : RAt T g (fun k => L0 ≤ k ∧ k < L1) w st
  hi : L1 ≤ w.heap.size
  lo : w0.heap.size ≤ L0
  g0 : L0 ≤ g
  g1 : g < L1
  out : ∀ (i b : Nat) (T : TypeId) (C : Array Value), l[i]? = some (b, T, C) → b < L0 ∨ L1 ≤ b
section
variable {T : TypeId} {w0 w w' : World} {g L0 L1 : Nat} {l l' : List (Nat × TypeId × Array Value)} {st st' : RSt}
theorem DI.its (h : DI T w0 g L0 L1 l w st) (hr : RAt T g (fun k => L0 ≤ k ∧ k < L1) w' st') (hf : Fr (Its g) w w') : DI T w0 g L0 L1 l w' st' :=
  ⟨bs_fr h.bs hf (fun k hk => by
    obtain rfl : k = g := hk
    refine ⟨Nat.le_trans h.lo h.g0, fun i b T C hi he => ?_⟩
    have := h.out i b T C hi
    have := h.g0
    have := h.g1
    omega), hr, Nat.le_trans h.hi hf.size, h.lo, h.g0, h.g1, h.out⟩
theorem DI.put (h : DI T w0 g L0 L1 l w st) {b : Nat} (hb : Bs w0 w' l') (hf : Fr (fun k => k = b) w w') (hb0 : b < L0 ∨ L1 ≤ b) (ho : ∀ (i b : Nat) (T : TypeId) (C : Array Value), l'[i]? = some (b, T, C) → b < L0 ∨ L1 ≤ b) : DI T w0 g L0 L1 l' w' st :=
  ⟨hb, h.r.frJ hf (fun e => by have := h.g0; have := h.g1; omega) (fun k e hj => by omega), Nat.le_trans h.hi hf.size, h.lo, h.g0, h.g1, ho⟩
theorem DI.below (h : DI T w0 g L0 L1 l w st) (hb : Below w.heap.size w w') : DI T w0 g L0 L1 l w' st :=
  ⟨h.bs.step hb, h.r.below hb, Nat.le_trans h.hi hb.size, h.lo, h.g0, h.g1, h.out⟩
end
/-- What a value's reading leaves, in the words of the walk. -/
theorem value_vo {T : TypeId} {w0 w w' : World} {g L0 L1 : Nat} {l : List (Nat × TypeId × Array Value)} {st st' : RSt} {t : Int} {p : List CmdD} (hd : DI T w0 g L0 L1 l w st) (hv : valueS st = ((t, p), st')) {e : Ending} (h : ValueSaid T g (fun k => L0 ≤ k ∧ k < L1) st w e w') :
    ∃ A c, e = .returned (.agg #[.int .i64 t, .slice A p.length c]) ∧ Hold (VO w.heap.size w'.heap.size w' ⟨t, A, p.length, c⟩ p) ∧ Hold (DI T w0 g L0 L1 l w' st') ∧ Hold (Fr (Its g) w w') := by
  obtain ⟨A, c, he, HO, HR, HF, hw⟩ := h
  rw [hv] at he HO HR hw
  exact ⟨A, c, he, ⟨HO.out, fun k hk => (HO.out.block_lt k hk).2, rfl, hw⟩, ⟨hd.its HR.out HF.out⟩, HF⟩
theorem num_di {T : TypeId} {w0 w w' : World} {g L0 L1 : Nat} {l : List (Nat × TypeId × Array Value)} {st st' : RSt} {t : Int} (hd : DI T w0 g L0 L1 l w st) (hv : numS st = (t, st')) {e : Ending} (h : NumSaid T g (fun k => L0 ≤ k ∧ k < L1) st w e w') :
    e = .returned (.int .i64 t) ∧ Hold (DI T w0 g L0 L1 l w' st') ∧ Hold (Fr (Its g) w w') := by
  obtain ⟨he, HR, HF⟩ := h
  rw [hv] at he HR
  exact ⟨he, ⟨hd.its HR HF⟩, ⟨HF⟩⟩

def erOf (p : EP) (x y z : Option Addr × Nat) : ER := ⟨p.c, p.pr, p.lo, p.hi, ⟨p.f.1, x.1, p.f.2.length, x.2⟩, p.ab, ⟨p.a.1, y.1, p.a.2.length, y.2⟩, p.fr == 1, p.dn == 1, ⟨p.v.1, z.1, p.v.2.length, z.2⟩⟩
def okP (p : EP) : Bool := okE (erOf p (none, 0) (none, 0) (none, 0)) p.f.2 p.a.2 p.v.2
theorem okP_eq (p : EP) (x y z : Option Addr × Nat) : okE (erOf p x y z) p.f.2 p.a.2 p.v.2 = okP p := rfl
def noEP : EP := ⟨⟨0, 0, 0, 0, 0, 0, 0⟩, 0, 0, 0, (0, []), 0, (0, []), 0, 0, (0, [])⟩
theorem erOf_no : erOf noEP (none, 0) (none, 0) (none, 0) = noER := rfl
/-- What bytes tell. -/
def decS (bs : List Int) : EP × Int :=
  if (entS (bs, 0)).2.2 = 0 ∧ (entS (bs, 0)).2.1 = [] ∧ (entS (bs, 0)).1.fr ≤ 1 ∧ (entS (bs, 0)).1.dn ≤ 1 ∧ okP (entS (bs, 0)).1 = true then ((entS (bs, 0)).1, 0) else (noEP, 2)
theorem noVR_at (w : World) : VAt w noVR [] := ⟨rfl, Rep.Row.nil _ _ _ _, by decide⟩
theorem noER_at (w : World) : EAt w noER [] [] [] := ⟨⟨by decide, by decide, by decide, by decide, by decide, by decide, by decide⟩, by decide, by decide, by decide, by decide, noVR_at w, noVR_at w, noVR_at w⟩
def DecSaid (bs : List Int) (w : World) (r : Ending) (w' : World) : Prop :=
  ∃ x y z, r = .returned (.tuple #[.agg (erOf (decS bs).1 x y z).cells, .int .i64 (decS bs).2]) ∧ Hold (EAt w' (erOf (decS bs).1 x y z) (decS bs).1.f.2 (decS bs).1.a.2 (decS bs).1.v.2) ∧ Hold (Below w.heap.size w w')

set_option maxHeartbeats 8000000 in
set_option maxRecDepth 100000 in
theorem decode_calls (A : Option Addr) (c n : Nat) (bs : List Int) (I : Nat → Prop) (w : World) (hn : n = bs.length) (hr : Rep.Row (Rep.int .u8) I w A bs) (hnil : A = none → c = 0) (hl : bs.length ≤ 1000000000) :
    Calls Try.prog 57 #[.slice A n c] w (DecSaid bs w) := by
  subst hn
  have HR := Hold.mk hr
  have HN := Hold.mk hnil
  have HL := Hold.mk hl
  have HBy := Hold.mk (Rep.row_wf hr)
  clear hr hnil hl
  obtain ⟨c1, s1, h1⟩ : ∃ c s, cmdS (bs, 0) = (c, s) := ⟨_, _, rfl⟩
  obtain ⟨pr, s2, h2⟩ : ∃ c s, numS s1 = (c, s) := ⟨_, _, rfl⟩
  obtain ⟨lo, s3, h3⟩ : ∃ c s, numS s2 = (c, s) := ⟨_, _, rfl⟩
  obtain ⟨hi, s4, h4⟩ : ∃ c s, numS s3 = (c, s) := ⟨_, _, rfl⟩
  obtain ⟨f1, f2, s5, h5⟩ : ∃ c d s, valueS s4 = ((c, d), s) := ⟨_, _, _, rfl⟩
  obtain ⟨ab, s6, h6⟩ : ∃ c s, numS s5 = (c, s) := ⟨_, _, rfl⟩
  obtain ⟨a1, a2, s7, h7⟩ : ∃ c d s, valueS s6 = ((c, d), s) := ⟨_, _, _, rfl⟩
  obtain ⟨fr, s8, h8⟩ : ∃ c s, numS s7 = (c, s) := ⟨_, _, rfl⟩
  obtain ⟨dn, s9, h9⟩ : ∃ c s, numS s8 = (c, s) := ⟨_, _, rfl⟩
  obtain ⟨v1, v2, rest, er, h10⟩ : ∃ c d r e, valueS s9 = ((c, d), (r, e)) := ⟨_, _, _, _, rfl⟩
  have HE : Hold (entS (bs, 0) = (⟨c1, pr, lo, hi, (f1, f2), ab, (a1, a2), fr, dn, (v1, v2)⟩, (rest, er))) := ⟨by simp only [entS, h1, h2, h3, h4, h5, h6, h7, h8, h9, h10]⟩
  have K1 := Hold.mk h1
  have K2 := Hold.mk h2
  have K3 := Hold.mk h3
  have K4 := Hold.mk h4
  have K5 := Hold.mk h5
  have K6 := Hold.mk h6
  have K7 := Hold.mk h7
  have K8 := Hold.mk h8
  have K9 := Hold.mk h9
  have K10 := Hold.mk h10
  clear h1 h2 h3 h4 h5 h6 h7 h8 h9 h10
  have hB := Bs.nil w
  go_enter Try.func57, Try.ntmps57
  go_wp2_with (first
    | (refine wpl_allocX zeroE hB rfl ?_; intro W2 g2 hB HA; simp only [List.cons_append, List.nil_append] at hB))
  have HA := Hold.mk HA.out
  have HB := Hold.mk hB
  clear hB
  refine (read_calls A c _ bs _ _ rfl (HR.out.below HB.out.below) HN.out HL.out).mono ?_
  rintro r w1 ⟨g, rfl, HG, HR1, HB1⟩
  have D1 : Hold (DI 131 w g W2.heap.size w1.heap.size [(g2, 70, noER.cells)] w1 (bs, 0)) := ⟨⟨HB.out.step HB1.out, OctBack.RAt.tight HR1.out, Nat.le_refl _, HB.out.below.size, HG.out, HR1.out.lt, fun i b T C hi => by
    rcases i with _ | i
    · simp only [List.getElem?_cons_zero, Option.some.injEq, Prod.mk.injEq] at hi
      have := HA.out.2
      omega
    · simp at hi⟩⟩
  obtain ⟨L0, hL0⟩ : ∃ L, W2.heap.size = L := ⟨_, rfl⟩
  obtain ⟨L1, hL1⟩ : ∃ L, w1.heap.size = L := ⟨_, rfl⟩
  rw [hL0, hL1] at D1
  have Hg2 : Hold (g2 < L0) := ⟨by have := HA.out.2; omega⟩
  clear hL0 hL1 HB HR1 HB1 HG HA
  go_wp2_with fail
  refine (cmd_calls g _ w1 (bs, 0) D1.out.r (fun k hk => Nat.lt_of_lt_of_le hk.2 D1.out.hi)).mono ?_
  rintro r w2 ⟨rfl, hr2, hf2, hw2⟩
  rw [K1.out] at hr2 hw2 ⊢
  have D2 := Hold.mk (D1.out.its hr2 hf2)
  have HWc := Hold.mk hw2
  clear D1 hr2 hf2 hw2
  go_wp2_with fail
  refine (num_calls g _ w2 s1 D2.out.r).mono ?_
  intro r w3 hs
  obtain ⟨rfl, D3, F3⟩ := num_di D2.out K2.out hs
  have HWpr := Hold.mk (numS_range D2.out.r.bytes)
  rw [K2.out] at HWpr
  clear D2 hs F3
  go_wp2_with fail
  refine (num_calls g _ w3 s2 D3.out.r).mono ?_
  intro r w4 hs
  obtain ⟨rfl, D4, F4⟩ := num_di D3.out K3.out hs
  have HWlo := Hold.mk (numS_range D3.out.r.bytes)
  rw [K3.out] at HWlo
  clear D3 hs F4
  go_wp2_with fail
  refine (num_calls g _ w4 s3 D4.out.r).mono ?_
  intro r w5 hs
  obtain ⟨rfl, D5, F5⟩ := num_di D4.out K4.out hs
  have HWhi := Hold.mk (numS_range D4.out.r.bytes)
  rw [K4.out] at HWhi
  clear D4 hs F5
  go_wp2_with fail
  refine (value_calls g _ w5 s4 D5.out.r (fun k hk => Nat.lt_of_lt_of_le hk.2 D5.out.hi)).mono ?_
  intro r w6 hs
  obtain ⟨A1, e1, rfl, V1, D6, F6⟩ := value_vo D5.out K5.out hs
  have V1 := Hold.mk (V1.out.lower D5.out.hi)
  have HG1 := Hold.mk D5.out.g1
  clear hs D5 F6
  go_wp2_with fail
  refine (num_calls g _ w6 s5 D6.out.r).mono ?_
  intro r w7 hs
  obtain ⟨rfl, D7, F7⟩ := num_di D6.out K6.out hs
  have HWab := Hold.mk (numS_range D6.out.r.bytes)
  rw [K6.out] at HWab
  have V1 := Hold.mk ((V1.out.its F7.out HG1.out).mono F7.out.size)
  clear D6 hs F7
  go_wp2_with fail
  refine (value_calls g _ w7 s6 D7.out.r (fun k hk => Nat.lt_of_lt_of_le hk.2 D7.out.hi)).mono ?_
  intro r w8 hs
  obtain ⟨A2, e2, rfl, V2, D8, F8⟩ := value_vo D7.out K7.out hs
  have V2 := Hold.mk (V2.out.lower D7.out.hi)
  have V1 := Hold.mk ((V1.out.its F8.out HG1.out).mono (Nat.le_trans (by have := V1.out.up; exact F8.out.size) (Nat.le_refl _)))
  clear hs D7 F8
  obtain ⟨E0, hE0⟩ : ∃ E : ER, E = ⟨c1, pr, lo, hi, ⟨f1, A1, f2.length, e1⟩, ab, ⟨a1, A2, a2.length, e2⟩, false, false, noVR⟩ := ⟨_, rfl⟩
  have hB := D8.out.bs
  go_wp2_with (first
    | (refine wpl_allocX zeroE hB rfl ?_; intro W9 g5 hB HA5; simp only [List.cons_append, List.nil_append] at hB)
    | (refine wpl_storeX (C' := ER.cells E0) isE rfl (by rw [hE0]; rfl) hB 1 rfl (ER.size _) (ER.size _) (ER.one _) rfl ?_; intro W10 hB HF10; simp only [List.set] at hB))
  have Hg5 : Hold (g5 = w8.heap.size ∧ L1 ≤ g5) := ⟨HA5.out.2.1, by rw [HA5.out.2.1]; exact D8.out.hi⟩
  have V1 := Hold.mk ((V1.out.step (Fr.of_below nob HA5.out.1) (fun k hk => hk.elim)).step HF10.out (fun k hk => .inr (by rw [hk, Hg5.out.1]; exact Nat.le_refl _)))
  have V2 := Hold.mk ((V2.out.step (Fr.of_below nob HA5.out.1) (fun k hk => hk.elim)).step HF10.out (fun k hk => .inr (by rw [hk, Hg5.out.1]; exact Nat.le_refl _)))
  have D10 : Hold (DI 131 w g L0 L1 [(g2, 70, noER.cells), (g5, 70, E0.cells)] W10 s7) := ⟨(D8.out.below HA5.out.1).put hB HF10.out (.inr Hg5.out.2) (fun i b T C hi => by
    rcases i with _ | _ | i
    · simp only [List.getElem?_cons_zero, Option.some.injEq, Prod.mk.injEq] at hi
      have := Hg2.out
      omega
    · simp only [List.getElem?_cons_succ, List.getElem?_cons_zero, Option.some.injEq, Prod.mk.injEq] at hi
      have := Hg5.out
      omega
    · simp at hi)⟩
  have Hg5w : Hold (g5 < W10.heap.size) := ⟨hB.lt 1 rfl⟩
  clear D8 HF10 HA5 hB
  refine (num_calls g _ W10 s7 D10.out.r).mono ?_
  intro r w11 hs
  obtain ⟨rfl, D11, F11⟩ := num_di D10.out K8.out hs
  have HWfr := Hold.mk (numS_range D10.out.r.bytes)
  rw [K8.out] at HWfr
  have V1 := Hold.mk (V1.out.its F11.out HG1.out)
  have V2 := Hold.mk (V2.out.its F11.out HG1.out)
  have Hg5w := Hold.mk (Nat.lt_of_lt_of_le Hg5w.out F11.out.size)
  clear D10 hs F11
  go_wp2_with fail
  refine (num_calls g _ w11 s8 D11.out.r).mono ?_
  intro r w12 hs
  obtain ⟨rfl, D12, F12⟩ := num_di D11.out K9.out hs
  have HWdn := Hold.mk (numS_range D11.out.r.bytes)
  rw [K9.out] at HWdn
  have V1 := Hold.mk (V1.out.its F12.out HG1.out)
  have V2 := Hold.mk (V2.out.its F12.out HG1.out)
  have Hg5w := Hold.mk (Nat.lt_of_lt_of_le Hg5w.out F12.out.size)
  clear D11 hs F12
  go_wp2_with fail
  refine (value_calls g _ w12 s9 D12.out.r (fun k hk => Nat.lt_of_lt_of_le hk.2 D12.out.hi)).mono ?_
  intro r w13 hs
  obtain ⟨A3, e3, rfl, V3, D13, F13⟩ := value_vo D12.out K10.out hs
  have V1 := Hold.mk (V1.out.its F13.out HG1.out)
  have V2 := Hold.mk (V2.out.its F13.out HG1.out)
  clear hs D12 F13
  obtain ⟨E1, hE1⟩ : ∃ E : ER, E = { E0 with fr := fr == 1 } := ⟨_, rfl⟩
  obtain ⟨E2, hE2⟩ : ∃ E : ER, E = { E1 with dn := dn == 1 } := ⟨_, rfl⟩
  obtain ⟨E3, hE3⟩ : ∃ E : ER, E = { E2 with v := ⟨v1, A3, v2.length, e3⟩ } := ⟨_, rfl⟩
  have hB := D13.out.bs
  go_wp2_with (first
    | (refine wpl_storeFX (C' := ER.cells E1) (V := #[.bool (fr == 1)]) szBool rfl rfl rfl hB 1 rfl rfl (by rw [ER.size]; omega) one_bool (by rw [hE1]; rfl) rfl ?_; intro W14 hB HF14; simp only [List.set] at hB)
    | (refine wpl_storeFX (C' := ER.cells E2) (V := #[.bool (dn == 1)]) szBool rfl rfl rfl hB 1 rfl rfl (by rw [ER.size]; omega) one_bool (by rw [hE2]; rfl) rfl ?_; intro W15 hB HF15; simp only [List.set] at hB)
    | (refine wpl_storeFX (C' := ER.cells E3) (V := #[.int .i64 v1, .slice A3 v2.length e3]) isV.size rfl rfl rfl hB 1 rfl rfl (by rw [ER.size]; omega) (VR.ones ⟨v1, A3, v2.length, e3⟩) (by rw [hE3]; rfl) rfl ?_; intro W16 hB HF16; simp only [List.set] at hB))
  have F16 : Hold (Fr (fun k => k = g5) w13 W16) := ⟨(HF14.out.trans HF15.out (fun _ _ h => h)).trans HF16.out (fun _ _ h => h)⟩
  have V1 := Hold.mk (V1.out.step F16.out (fun k hk => .inr (by rw [hk, Hg5.out.1]; exact Nat.le_refl _)))
  have V2 := Hold.mk (V2.out.step F16.out (fun k hk => .inr (by rw [hk, Hg5.out.1]; exact Nat.le_refl _)))
  have V3 := Hold.mk (V3.out.step F16.out (fun k hk => .inl (by rw [hk]; exact Hg5w.out)))
  have D16 := Hold.mk (D13.out.put hB F16.out (.inr Hg5.out.2) (fun i b T C hi => by
    rcases i with _ | _ | i
    · simp only [List.getElem?_cons_zero, Option.some.injEq, Prod.mk.injEq] at hi
      have := Hg2.out
      omega
    · simp only [List.getElem?_cons_succ, List.getElem?_cons_zero, Option.some.injEq, Prod.mk.injEq] at hi
      have := Hg5.out
      omega
    · simp at hi))
  obtain ⟨p, hp⟩ : ∃ p : EP, p = ⟨c1, pr, lo, hi, (f1, f2), ab, (a1, a2), fr, dn, (v1, v2)⟩ := ⟨_, rfl⟩
  have HE3 : Hold (E3 = erOf p (A1, e1) (A2, e2) (A3, e3)) := ⟨by rw [hE3, hE2, hE1, hE0, hp]; rfl⟩
  have HEn : Hold (entS (bs, 0) = (p, (rest, er))) := ⟨by rw [HE.out, hp]⟩
  have HEall : Hold (∀ W', VAt W' ⟨f1, A1, f2.length, e1⟩ f2 → VAt W' ⟨a1, A2, a2.length, e2⟩ a2 → VAt W' ⟨v1, A3, v2.length, e3⟩ v2 → EAt W' E3 f2 a2 v2) := ⟨fun W' q1 q2 q3 => by
    rw [hE3, hE2, hE1, hE0]
    exact ⟨HWc.out, wf_num HWpr.out, wf_num HWlo.out, wf_num HWhi.out, wf_num HWab.out, q1, q2, q3⟩⟩
  have HEA := Hold.mk (HEall.out W16 V1.out.at V2.out.at V3.out.at)
  have Hp : Hold (p.f.2 = f2 ∧ p.a.2 = a2 ∧ p.v.2 = v2 ∧ p.fr = fr ∧ p.dn = dn) := ⟨by rw [hp]; exact ⟨rfl, rfl, rfl, rfl, rfl⟩⟩
  clear hE0 hE1 hE2 hE3 hp HF14 HF15 HF16 F16 D13 HE HWpr HWlo HWhi HWab HWfr HWdn HWc
  refine (err_calls g _ W16 (rest, er) D16.out.r).mono ?_
  rintro r w17 ⟨rfl, rfl⟩
  have hrl : er = 0 → rest.length ≤ 1000000000 := fun h => by
    have hb : Rd.Bytes bs := fun x hx => bounds_u8 (HBy.out x hx)
    have := (entS_canon hb (by rw [HEn.out]; exact h)).2
    rw [HEn.out] at this
    have h2 := congrArg List.length this
    simp only [EP.bytes, List.length_append] at h2
    have := HL.out
    omega
  obtain ⟨okp, hokp⟩ : ∃ b, okP p = b := ⟨_, rfl⟩
  have HOk : Hold (okE E3 f2 a2 v2 = okp) := ⟨by rw [HE3.out, ← hokp, ← Hp.out.1, ← Hp.out.2.1, ← Hp.out.2.2.1]; rfl⟩
  have HD : Hold (decS bs = if er = 0 ∧ rest = [] ∧ fr ≤ 1 ∧ dn ≤ 1 ∧ okp = true then (p, 0) else (noEP, 2)) := ⟨by
    rw [decS, HEn.out, ← hokp]
    dsimp only
    rw [Hp.out.2.2.2.1, Hp.out.2.2.2.2]⟩
  clear hokp
  by_cases k1 : er = 0
  · subst k1
    have t1 : ((0 : Int) != 0) = false := rfl
    have HRL := Hold.mk (hrl rfl)
    clear hrl
    go_wp2_with fail
    refine (rest_calls g _ W16 (rest, 0) D16.out.r HRL.out).mono ?_
    rintro r w18 ⟨A4, e4, rfl, _, HB18⟩
    replace hB := hB.step HB18.out
    have HEA := Hold.mk (HEA.out.below HB18.out)
    have V1 := Hold.mk (V1.out.step (Fr.of_below nob HB18.out) (fun k hk => hk.elim))
    have V2 := Hold.mk (V2.out.step (Fr.of_below nob HB18.out) (fun k hk => hk.elim))
    have V3 := Hold.mk (V3.out.step (Fr.of_below nob HB18.out) (fun k hk => hk.elim))
    rcases rest with _ | ⟨x, rest⟩
    · by_cases k3 : 1 < fr
      · have t3 : decide (1 < fr) = true := decide_eq_true k3
        have HDn : Hold (decS bs = (noEP, 2)) := ⟨by rw [HD.out, if_neg]; rintro ⟨_, _, h, _⟩; omega⟩
        clear HD k3
        go_wp2_with (refine wpl_store (C' := ER.cells noER) isE rfl rfl hB 0 rfl (ER.size _) (ER.size _) (ER.one _) rfl ?_; intro W19 hB; simp only [List.set] at hB)
        exact bodyPost_ret (res_two rfl rfl rfl isE hB 0 rfl (ER.size _)) rfl ⟨(none, 0), (none, 0), (none, 0), by rw [HDn.out]; rfl, ⟨by rw [HDn.out]; exact noER_at _⟩, ⟨hB.below⟩⟩
      · have t3 : decide (1 < fr) = false := decide_eq_false k3
        by_cases k4 : 1 < dn
        · have t4 : decide (1 < dn) = true := decide_eq_true k4
          have HDn : Hold (decS bs = (noEP, 2)) := ⟨by rw [HD.out, if_neg]; rintro ⟨_, _, _, h, _⟩; omega⟩
          clear HD k3 k4
          go_wp2_with (refine wpl_store (C' := ER.cells noER) isE rfl rfl hB 0 rfl (ER.size _) (ER.size _) (ER.one _) rfl ?_; intro W19 hB; simp only [List.set] at hB)
          exact bodyPost_ret (res_two rfl rfl rfl isE hB 0 rfl (ER.size _)) rfl ⟨(none, 0), (none, 0), (none, 0), by rw [HDn.out]; rfl, ⟨by rw [HDn.out]; exact noER_at _⟩, ⟨hB.below⟩⟩
        · have t4 : decide (1 < dn) = false := decide_eq_false k4
          cases okp
          · have HDn : Hold (decS bs = (noEP, 2)) := ⟨by rw [HD.out, if_neg]; rintro ⟨_, _, _, _, h⟩; cases h⟩
            clear HD k3 k4
            go_wp2_with (first
              | (with_reducible refine gateG 70 ?_; go_guarded; refine wp_load isE (b := g5) (C := ER.cells E3) (Eq.refl _) hB 1 rfl (ER.size _) ?_; simp only [Act.put, List.setIfInBounds_toArray, List.set_cons_zero, List.set_cons_succ])
              | (go_at_call 50; with_reducible refine (right_calls E3 f2 a2 v2 _ false HEA.out HOk.out).mono ?_; rintro r w19 ⟨rfl, hb1⟩; replace hB := hB.step hb1)
              | (refine wpl_store (C' := ER.cells noER) isE rfl rfl hB 0 rfl (ER.size _) (ER.size _) (ER.one _) rfl ?_; intro W19 hB; simp only [List.set] at hB))
            exact bodyPost_ret (res_two rfl rfl rfl isE hB 0 rfl (ER.size _)) rfl ⟨(none, 0), (none, 0), (none, 0), by rw [HDn.out]; rfl, ⟨by rw [HDn.out]; exact noER_at _⟩, ⟨hB.below⟩⟩
          · have HDn : Hold (decS bs = (p, 0)) := ⟨by rw [HD.out, if_pos]; exact ⟨by trivial, by trivial, by omega, by omega, by trivial⟩⟩
            clear HD k3 k4
            go_wp2_with (first
              | (with_reducible refine gateG 70 ?_; go_guarded; refine wp_load isE (b := g5) (C := ER.cells E3) (Eq.refl _) hB 1 rfl (ER.size _) ?_; simp only [Act.put, List.setIfInBounds_toArray, List.set_cons_zero, List.set_cons_succ])
              | (go_at_call 50; with_reducible refine (right_calls E3 f2 a2 v2 _ true HEA.out HOk.out).mono ?_; rintro r w19 ⟨rfl, hb1⟩; replace hB := hB.step hb1; have HB19 := Hold.mk hb1)
              | (refine wpl_load isE rfl hB 1 rfl (ER.size _) rfl ?_)
              | (refine wpl_storeX (C' := ER.cells E3) isE rfl rfl hB 0 rfl (ER.size _) (ER.size _) (ER.one _) rfl ?_; intro W20 hB HF20; simp only [List.set] at hB))
            have hfin : ∀ {lo hi : Nat} {v : VR} {l : List CmdD}, VO lo hi w18 v l → g2 < lo → VAt W20 v l := fun q hlo => ((q.step (Fr.of_below nob HB19.out) (fun k hk => hk.elim)).step HF20.out (fun k hk => .inl (by rw [hk]; exact hlo))).at
            have hg2 : g2 < L1 := Nat.lt_of_lt_of_le Hg2.out (Nat.le_trans D16.out.g0 (Nat.le_of_lt D16.out.g1))
            have hEf := HEall.out W20 (hfin V1.out hg2) (hfin V2.out hg2) (hfin V3.out (by have := Hg5w.out; have := Hg5.out.2; omega))
            refine bodyPost_ret (res_two rfl rfl rfl isE hB 0 rfl (ER.size _)) rfl ⟨(A1, e1), (A2, e2), (A3, e3), ?_, ⟨?_⟩, ⟨hB.below⟩⟩
            · rw [HDn.out]
              show _ = Ending.returned (.tuple #[.agg (erOf p (A1, e1) (A2, e2) (A3, e3)).cells, .int .i64 0])
              rw [← HE3.out]
              rfl
            · rw [HDn.out]
              dsimp only
              rw [← HE3.out, Hp.out.1, Hp.out.2.1, Hp.out.2.2.1]
              exact hEf
    · have t2 : decide ((0 : Int) < ((x :: rest).length : Int)) = true := decide_eq_true (by simp)
      have t2' : decide (0 < (x :: rest).length) = true := decide_eq_true (by simp)
      have HDn : Hold (decS bs = (noEP, 2)) := ⟨by rw [HD.out, if_neg]; rintro ⟨_, h, _⟩; cases h⟩
      clear HD
      go_wp2_with (refine wpl_store (C' := ER.cells noER) isE rfl rfl hB 0 rfl (ER.size _) (ER.size _) (ER.one _) rfl ?_; intro W19 hB; simp only [List.set] at hB)
      exact bodyPost_ret (res_two rfl rfl rfl isE hB 0 rfl (ER.size _)) rfl ⟨(none, 0), (none, 0), (none, 0), by rw [HDn.out]; rfl, ⟨by rw [HDn.out]; exact noER_at _⟩, ⟨hB.below⟩⟩
  · have t1 : (er != 0) = true := by simpa using k1
    have HDn : Hold (decS bs = (noEP, 2)) := ⟨by rw [HD.out, if_neg (fun h => k1 h.1)]⟩
    clear HD k1 hrl
    go_wp2_with (refine wpl_store (C' := ER.cells noER) isE rfl rfl hB 0 rfl (ER.size _) (ER.size _) (ER.one _) rfl ?_; intro W19 hB; simp only [List.set] at hB)
    exact bodyPost_ret (res_two rfl rfl rfl isE hB 0 rfl (ER.size _)) rfl ⟨(none, 0), (none, 0), (none, 0), by rw [HDn.out]; rfl, ⟨by rw [HDn.out]; exact noER_at _⟩, ⟨hB.below⟩⟩
end Go.Proofs.Ytebhclgnpnlekaa.Ent
