/- A command that comes: package octet's Reader.Cmd, and the document's, by their walks. -/
import Derived.Test.YtebhclgnpnlekaaNumRef
namespace Go.Proofs.Ytebhclgnpnlekaa.Rd
open Go.RowKit Go.Proofs.Ytebhclgnpnlekaa.B Go.Proofs.Ytebhclgnpnlekaa.Cmd

abbrev RSt := List Int × Int
/-- Numbers that are taken. -/
def numsS : Nat → RSt → List Int × RSt
  | 0, st => ([], st)
  | k + 1, st => ((numsS k st).1 ++ [(numS (numsS k st).2).1], (numS (numsS k st).2).2)
theorem numsS_len (k : Nat) (st : RSt) : (numsS k st).1.length = k := by
  induction k with
  | zero => rfl
  | succ k ih => simp [numsS, ih]
def zeroCmd : CmdD := ⟨0, 0, 0, 0, 0, 0, 0⟩
def cmdOf (l : List Int) : CmdD := ⟨l.getD 0 0, l.getD 1 0, l.getD 2 0, l.getD 3 0, l.getD 4 0, l.getD 5 0, l.getD 6 0⟩
def cmdS (st : RSt) : CmdD × RSt := if (numsS 7 st).2.2 ≠ 0 then (zeroCmd, (numsS 7 st).2) else if okCmd (cmdOf (numsS 7 st).1) = true then (cmdOf (numsS 7 st).1, (numsS 7 st).2) else (zeroCmd, ([], 2))

def Bytes (l : List Int) : Prop := ∀ x ∈ l, 0 ≤ x ∧ x ≤ 255
theorem RAt.bytes {T : TypeId} {g : Nat} {J : Nat → Prop} {w : World} {st : RSt} (h : RAt T g J w st) : Bytes st.1 := by
  obtain ⟨A, c, _, _, _, hr⟩ := h
  exact fun x hx => bounds_u8 (Rep.row_wf hr x hx)
theorem dec_range (i : Nat) (n u : Int) (l : List Int) (m : Int) (r : List Int) (hb : Bytes l) (hn : 0 ≤ n) (hu : 0 ≤ u) (h : dec i n u l = .ok m r) : 0 ≤ m ∧ m ≤ 1099511627776 := by
  induction l generalizing i n u with
  | nil => simp only [dec] at h; split at h <;> cases h
  | cons x xs ih =>
    have hx := hb x (List.mem_cons_self ..)
    simp only [dec] at h
    split at h
    · cases h
    · split at h
      · split at h
        · cases h
        · rename_i hno
          cases h
          have := Int.mul_nonneg hx.1 hu
          omega
      · exact ih _ _ _ (fun y hy => hb y (List.mem_cons_of_mem _ hy)) (by have := Int.mul_nonneg (a := x - 128) (b := u) (by omega) hu; omega) (by omega) h
theorem numS_range {st : RSt} (hb : Bytes st.1) : 0 ≤ (numS st).1 ∧ (numS st).1 ≤ 1099511627776 := by
  unfold numS
  split
  · simp
  · split
    · rename_i n r h
      exact dec_range 0 0 1 st.1 n r hb (by decide) (by decide) h
    · simp
    · simp
theorem wf_num {n : Int} (h : 0 ≤ n ∧ n ≤ 1099511627776) : (Lit.int .i64 n).wf = true := by
  have e1 : IntKind.i64.min = -9223372036854775808 := by decide
  have e2 : IntKind.i64.max = 9223372036854775807 := by decide
  simp [Lit.wf, e1, e2]
  omega
theorem cmdOf_wf {l : List Int} (h : ∀ x ∈ l, 0 ≤ x ∧ x ≤ 1099511627776) : (cmdOf l).wf := by
  have key : ∀ i, (Lit.int .i64 (l.getD i 0)).wf = true := by
    intro i
    rw [List.getD_eq_getElem?_getD]
    cases hx : l[i]? with
    | none => decide
    | some x => exact wf_num (h x (List.mem_of_getElem? hx))
  exact ⟨key 0, key 1, key 2, key 3, key 4, key 5, key 6⟩
theorem zero_wf : zeroCmd.wf := ⟨by decide, by decide, by decide, by decide, by decide, by decide, by decide⟩

abbrev iv (n : Int) : Value := .int .i64 n
/-- While a command is taken: its box, its kind's, its side's, and where they lie. -/
structure CmdIn (T : TypeId) (g : Nat) (J : Nat → Prop) (b : Nat) (w : World) (l : List Int) (st : RSt) : Prop where
  cb : w.heap[b + 1]? = some (.cells #[iv (l.getD 0 0), iv 0, iv (l.getD 2 0), iv (l.getD 3 0), iv 0, iv (l.getD 5 0), iv (l.getD 6 0)] 45 (0, 0))
  kb : w.heap[b + 2]? = some (.cells #[iv (l.getD 1 0)] 3 (0, 0))
  sb : w.heap[b + 3]? = some (.cells #[iv (l.getD 4 0)] 3 (0, 0))
  pb : w.heap[b + 4]? = some (.cells #[.pointer (some ⟨b + 1, 0, none⟩), .pointer (some ⟨b + 2, 0, none⟩), .pointer (some ⟨b + 1, 2, none⟩), .pointer (some ⟨b + 1, 3, none⟩), .pointer (some ⟨b + 3, 0, none⟩), .pointer (some ⟨b + 1, 5, none⟩), .pointer (some ⟨b + 1, 6, none⟩)] 133 (0, 0))
  zb : w.heap[b]? = some (.cells #[iv 0, iv 0, iv 0, iv 0, iv 0, iv 0, iv 0] 45 (0, 0))
  r : RAt T g J w st
  gb : g < b
  jb : ∀ k, J k → k < b
  rng : ∀ x ∈ l, 0 ≤ x ∧ x ≤ 1099511627776
/-- Where a number goes. -/
def spot (b i : Nat) : Addr := match i with | 0 => ⟨b + 1, 0, none⟩ | 1 => ⟨b + 2, 0, none⟩ | 2 => ⟨b + 1, 2, none⟩ | 3 => ⟨b + 1, 3, none⟩ | 4 => ⟨b + 3, 0, none⟩ | 5 => ⟨b + 1, 5, none⟩ | _ => ⟨b + 1, 6, none⟩
section
variable {T : TypeId} {g b : Nat} {J : Nat → Prop} {w w1 : World} {l : List Int} {st st1 : RSt}
theorem CmdIn.num (h : CmdIn T g J b w l st) (hr : RAt T g J w1 st1) (hf : Fr (Its g) w w1) : CmdIn T g J b w1 l st1 := by
  have k : ∀ j, b ≤ j → j < w.heap.size → w1.heap[j]? = w.heap[j]? := fun j hj hlt => hf.block j hlt (fun e => by have := h.gb; have e : j = g := e; omega)
  have lt : ∀ {j o}, w.heap[j]? = some o → j < w.heap.size := fun e => (Array.getElem?_eq_some_iff.1 e).1
  exact ⟨(k _ (by omega) (lt h.cb)).trans h.cb, (k _ (by omega) (lt h.kb)).trans h.kb, (k _ (by omega) (lt h.sb)).trans h.sb, (k _ (by omega) (lt h.pb)).trans h.pb, (k _ (by omega) (lt h.zb)).trans h.zb, hr, h.gb, h.jb, h.rng⟩
theorem RAt.far {p : Addr} {u : Value} (h : RAt T g J w st) (hp : p.block ≠ g) (hn : ¬ J p.block) : RAt T g J (w.setCell p u) st := by
  obtain ⟨A, c, h1, h2, h3, h4⟩ := h
  exact ⟨A, c, (Below.heap_setCell _ _ _ _ (Ne.symm hp)).trans h1, h2, h3, h4.move fun k hk _ => ⟨hk, Below.heap_setCell _ _ _ _ (fun e => hn (by rw [← e]; exact hk.2))⟩⟩
theorem spot_block (b i : Nat) : (spot b i).block = b + 1 ∨ (spot b i).block = b + 2 ∨ (spot b i).block = b + 3 := by
  unfold spot; split <;> simp
/-- The spot's pointer, where it is read. -/
theorem CmdIn.ptr (h : CmdIn T g J b w l st) (i : Nat) (hi : i < 7) : w.cell? ⟨b + 4, i, none⟩ = some (.pointer (some (spot b i))) := by
  rcases (by omega : i = 0 ∨ i = 1 ∨ i = 2 ∨ i = 3 ∨ i = 4 ∨ i = 5 ∨ i = 6) with rfl | rfl | rfl | rfl | rfl | rfl | rfl <;> simp [World.cell?, h.pb, spot]
theorem CmdIn.at_ (h : CmdIn T g J b w l st) (i : Nat) (hi : i < 7) : (∃ v, w.cell? (spot b i) = some v) ∧ w.frozen? (spot b i) = false := by
  rcases (by omega : i = 0 ∨ i = 1 ∨ i = 2 ∨ i = 3 ∨ i = 4 ∨ i = 5 ∨ i = 6) with rfl | rfl | rfl | rfl | rfl | rfl | rfl <;> simp [World.cell?, World.frozen?, h.cb, h.kb, h.sb, spot]
theorem CmdIn.put (h : CmdIn T g J b w l st) (n : Int) (hn : 0 ≤ n ∧ n ≤ 1099511627776) (hi : l.length < 7) : CmdIn T g J b (w.setCell (spot b l.length) (iv n)) (l ++ [n]) st := by
  have hfar : ∀ k, k ≠ (spot b l.length).block → (w.setCell (spot b l.length) (iv n)).heap[k]? = w.heap[k]? := fun k hk => Below.heap_setCell _ _ _ _ hk
  have hb := spot_block b l.length
  have hgb := h.gb
  have hr : RAt T g J (w.setCell (spot b l.length) (iv n)) st := h.r.far (by omega) (fun hj => by have := h.jb _ hj; omega)
  have hp : (w.setCell (spot b l.length) (iv n)).heap[b + 4]? = _ := (hfar (b + 4) (by omega)).trans h.pb
  have hz : (w.setCell (spot b l.length) (iv n)).heap[b]? = _ := (hfar b (by omega)).trans h.zb
  have hrng : ∀ x ∈ l ++ [n], 0 ≤ x ∧ x ≤ 1099511627776 := by
    intro x hx
    rcases List.mem_append.1 hx with hx | hx
    · exact h.rng x hx
    · rw [List.mem_singleton.1 hx]; exact hn
  have hcb := h.cb
  have hkb := h.kb
  have hsb := h.sb
  rcases l with _ | ⟨a0, _ | ⟨a1, _ | ⟨a2, _ | ⟨a3, _ | ⟨a4, _ | ⟨a5, _ | ⟨a6, l⟩⟩⟩⟩⟩⟩⟩
  · exact ⟨by have := blk_set w (b + 1) 0 (iv n) hcb; simpa [spot] using this, (hfar _ (by simp [spot])).trans hkb, (hfar _ (by simp [spot])).trans hsb, hp, hz, hr, hgb, h.jb, hrng⟩
  · exact ⟨(hfar _ (by simp [spot])).trans hcb, by have := blk_set w (b + 2) 0 (iv n) hkb; simpa [spot] using this, (hfar _ (by simp [spot])).trans hsb, hp, hz, hr, hgb, h.jb, hrng⟩
  · exact ⟨by have := blk_set w (b + 1) 2 (iv n) hcb; simpa [spot] using this, (hfar _ (by simp [spot])).trans hkb, (hfar _ (by simp [spot])).trans hsb, hp, hz, hr, hgb, h.jb, hrng⟩
  · exact ⟨by have := blk_set w (b + 1) 3 (iv n) hcb; simpa [spot] using this, (hfar _ (by simp [spot])).trans hkb, (hfar _ (by simp [spot])).trans hsb, hp, hz, hr, hgb, h.jb, hrng⟩
  · exact ⟨(hfar _ (by simp [spot])).trans hcb, (hfar _ (by simp [spot])).trans hkb, by have := blk_set w (b + 3) 0 (iv n) hsb; simpa [spot] using this, hp, hz, hr, hgb, h.jb, hrng⟩
  · exact ⟨by have := blk_set w (b + 1) 5 (iv n) hcb; simpa [spot] using this, (hfar _ (by simp [spot])).trans hkb, (hfar _ (by simp [spot])).trans hsb, hp, hz, hr, hgb, h.jb, hrng⟩
  · exact ⟨by have := blk_set w (b + 1) 6 (iv n) hcb; simpa [spot] using this, (hfar _ (by simp [spot])).trans hkb, (hfar _ (by simp [spot])).trans hsb, hp, hz, hr, hgb, h.jb, hrng⟩
  · simp at hi; omega
end
theorem seven {l : List Int} (h : l.length = 7) : ∃ a0 a1 a2 a3 a4 a5 a6, l = [a0, a1, a2, a3, a4, a5, a6] := by
  rcases l with _ | ⟨a0, _ | ⟨a1, _ | ⟨a2, _ | ⟨a3, _ | ⟨a4, _ | ⟨a5, _ | ⟨a6, _ | ⟨a7, l⟩⟩⟩⟩⟩⟩⟩⟩ <;> simp at h
  exact ⟨_, _, _, _, _, _, _, rfl⟩
/-- What Cmd leaves. -/
def CmdSaid (T : TypeId) (g : Nat) (J : Nat → Prop) (st : RSt) (w : World) (e : Ending) (w' : World) : Prop :=
  e = .returned (cmdS st).1.v ∧ RAt T g J w' (cmdS st).2 ∧ Fr (Its g) w w' ∧ (cmdS st).1.wf
theorem cmd_nil (w : World) : Calls Try.prog 23 #[.pointer none] w fun e w' => e = .returned zeroCmd.v ∧ Below w.heap.size w w' := by
  go_enter Try.func23, Try.ntmps23
  go_wp2
  exact bodyPost_ret (v := zeroCmd.v) (by simp [results, Try.results23, go_sem, zeroCmd]) rfl ⟨rfl, (Below.refl _ _).alloc (Nat.le_refl _) _⟩

/-- Where a command begins. -/
def cmdStart (w : World) (b : Nat) : World := (((((w.alloc (.cells #[iv 0, iv 0, iv 0, iv 0, iv 0, iv 0, iv 0] 45)).alloc (.cells #[iv 0, iv 0, iv 0, iv 0, iv 0, iv 0, iv 0] 45)).alloc (.cells #[iv 0] 3)).alloc (.cells #[iv 0] 3)).alloc (.cells #[.pointer (some ⟨b + 1, 0, none⟩), .pointer (some ⟨b + 1 + 1, 0, none⟩), .pointer (some ⟨b + 1, 2, none⟩), .pointer (some ⟨b + 1, 3, none⟩), .pointer (some ⟨b + 1 + 1 + 1, 0, none⟩), .pointer (some ⟨b + 1, 5, none⟩), .pointer (some ⟨b + 1, 6, none⟩)] 133))
theorem cmdStart_below (w : World) (b : Nat) : Below w.heap.size w (cmdStart w b) :=
  (((((Below.refl _ _).alloc (Nat.le_refl _) _).alloc (by simp) _).alloc (by simp; omega) _).alloc (by simp; omega) _).alloc (by simp; omega) _
theorem cmdStart_in {T : TypeId} {g b : Nat} {J : Nat → Prop} {w : World} {st : RSt} (h : RAt T g J w st) (hJ : ∀ k, J k → k < w.heap.size) (hb : w.heap.size = b) : CmdIn T g J b (cmdStart w b) [] st := by
  subst hb
  refine ⟨?_, ?_, ?_, ?_, ?_, h.below (cmdStart_below w _), h.lt, hJ, by simp⟩ <;> (show (((((w.heap.push _).push _).push _).push _).push _)[_]? = _) <;> simp only [Array.getElem?_push, Array.size_push] <;> (try simp) <;> (try (repeat rw [if_neg (by omega)]))

/-- A command stored whole. -/
abbrev set7 (w : World) (b : Nat) (c : CmdD) : World := ((((((w.setCell ⟨b, 0, none⟩ (iv c.id)).setCell ⟨b, 1, none⟩ (iv c.kind)).setCell ⟨b, 2, none⟩ (iv c.sym)).setCell ⟨b, 3, none⟩ (iv c.tgt)).setCell ⟨b, 4, none⟩ (iv c.side)).setCell ⟨b, 5, none⟩ (iv c.price)).setCell ⟨b, 6, none⟩ (iv c.qty)
theorem set7_facts {T : TypeId} {g b : Nat} {J : Nat → Prop} {w0 w : World} {st : RSt} {x0 x1 x2 x3 x4 x5 x6 : Value} (c : CmdD) (hb : w.heap[b]? = some (.cells #[x0, x1, x2, x3, x4, x5, x6] 45 (0, 0))) (hr : RAt T g J w st) (hg : b ≠ g) (hJ : ¬ J b) (hf : Fr (Its g) w0 w) (h0 : w0.heap.size ≤ b) :
    (set7 w b c).heap[b]? = some (.cells #[iv c.id, iv c.kind, iv c.sym, iv c.tgt, iv c.side, iv c.price, iv c.qty] 45 (0, 0)) ∧ RAt T g J (set7 w b c) st ∧ Fr (Its g) w0 (set7 w b c) := by
  refine ⟨?_, ?_, ?_⟩
  · have := blk_set _ b 6 (iv c.qty) (blk_set _ b 5 (iv c.price) (blk_set _ b 4 (iv c.side) (blk_set _ b 3 (iv c.tgt) (blk_set _ b 2 (iv c.sym) (blk_set _ b 1 (iv c.kind) (blk_set w b 0 (iv c.id) hb))))))
    simpa using this
  · exact ((((((hr.far (p := ⟨b, 0, none⟩) hg hJ).far (p := ⟨b, 1, none⟩) hg hJ).far (p := ⟨b, 2, none⟩) hg hJ).far (p := ⟨b, 3, none⟩) hg hJ).far (p := ⟨b, 4, none⟩) hg hJ).far (p := ⟨b, 5, none⟩) hg hJ).far (p := ⟨b, 6, none⟩) hg hJ
  · exact ((((((hf.setCell (p := ⟨b, 0, none⟩) (.inr h0) _).setCell (p := ⟨b, 1, none⟩) (.inr h0) _).setCell (p := ⟨b, 2, none⟩) (.inr h0) _).setCell (p := ⟨b, 3, none⟩) (.inr h0) _).setCell (p := ⟨b, 4, none⟩) (.inr h0) _).setCell (p := ⟨b, 5, none⟩) (.inr h0) _).setCell (p := ⟨b, 6, none⟩) (.inr h0) _
set_option maxHeartbeats 4000000 in
set_option maxRecDepth 100000 in
theorem cmd_calls (g : Nat) (J : Nat → Prop) (w : World) (st : RSt) (h : RAt 131 g J w st) (hJ : ∀ k, J k → k < w.heap.size) :
    Calls Try.prog 23 #[.pointer (some ⟨g, 0, none⟩)] w (CmdSaid 131 g J st w) := by
  have H := Hold.mk h
  have HJ := Hold.mk hJ
  obtain ⟨b, hb⟩ : ∃ b, w.heap.size = b := ⟨_, rfl⟩
  have HBb := Hold.mk hb
  clear h hJ
  go_enter Try.func23, Try.ntmps23
  go_wp2
  obtain ⟨w5, hw5⟩ : ∃ W, cmdStart w b = W := ⟨_, rfl⟩
  have hw5' : (((((w.alloc (.cells #[iv 0, iv 0, iv 0, iv 0, iv 0, iv 0, iv 0] 45)).alloc (.cells #[iv 0, iv 0, iv 0, iv 0, iv 0, iv 0, iv 0] 45)).alloc (.cells #[iv 0] 3)).alloc (.cells #[iv 0] 3)).alloc (.cells #[.pointer (some ⟨b + 1, 0, none⟩), .pointer (some ⟨b + 1 + 1, 0, none⟩), .pointer (some ⟨b + 1, 2, none⟩), .pointer (some ⟨b + 1, 3, none⟩), .pointer (some ⟨b + 1 + 1 + 1, 0, none⟩), .pointer (some ⟨b + 1, 5, none⟩), .pointer (some ⟨b + 1, 6, none⟩)] 133)) = w5 := hw5
  have HIn : Hold (CmdIn 131 g J b w5 [] st) := ⟨by rw [← hw5]; exact cmdStart_in H.out HJ.out HBb.out⟩
  have HB5 : Hold (Below w.heap.size w w5) := ⟨by rw [← hw5]; exact cmdStart_below w b⟩
  first | rw [hw5'] | skip
  clear hw5 hw5'
  go_loopw [18] (fun s wr => ∃ i : Nat, i ≤ 7 ∧ s = .int .i64 (i : Int) ∧ Hold (CmdIn 131 g J b wr (numsS i st).1 (numsS i st).2) ∧ Hold (Fr (Its g) w wr)) (fun s _ => 7 - (intOf s).toNat)
  case atStart => exact ⟨0, by omega, rfl, HIn, ⟨Fr.of_below _ HB5.out⟩⟩
  case round =>
    obtain ⟨i, hi, rfl, HC, HF⟩ := hrel
    by_cases hlt : i < 7
    · have l1 : (i : Int) < 7 := by omega
      obtain ⟨p, hp⟩ : ∃ p, spot b i = p := ⟨_, rfl⟩
      have q1 : wr.cell? ⟨b + 1 + 1 + 1 + 1, i, none⟩ = some (.pointer (some p)) := by rw [← hp]; exact HC.out.ptr i hlt
      have HP := Hold.mk hp
      clear hp
      go_wp2_with fail
      refine (num_calls g J wr (numsS i st).2 HC.out.r).mono ?_
      rintro e w2 ⟨rfl, hr2, hf2⟩
      have hc2 := HC.out.num hr2 hf2
      obtain ⟨n, hn⟩ : ∃ n, (numS (numsS i st).2).1 = n := ⟨_, rfl⟩
      have hrg := numS_range HC.out.r.bytes
      have hput := hc2.put n (by rw [← hn]; exact hrg) (by rw [numsS_len]; exact hlt)
      rw [numsS_len, HP.out] at hput
      obtain ⟨⟨v0, hv0⟩, hfz⟩ := hc2.at_ i hlt
      rw [HP.out] at hv0 hfz
      have hnx1 : (numsS (i + 1) st).1 = (numsS i st).1 ++ [n] := by rw [← hn]; rfl
      have hnx2 : (numsS (i + 1) st).2 = (numS (numsS i st).2).2 := rfl
      have HC3 : Hold (CmdIn 131 g J b (w2.setCell p (iv n)) (numsS (i + 1) st).1 (numsS (i + 1) st).2) := ⟨by rw [hnx1, hnx2]; exact hput⟩
      have hpb : p.block ≠ g ∧ b ≤ p.block := by
        have := spot_block b i
        rw [HP.out] at this
        have := HC.out.gb
        omega
      have HF3 : Hold (Fr (Its g) w (w2.setCell p (iv n))) := ⟨(HF.out.trans hf2 (fun _ _ h => h)).setCell (.inr (by have := HBb.out; omega)) _⟩
      rw [hn]
      clear hr2 hf2 hc2 hrg hput hnx1 hnx2 hpb hn q1
      go_wp2
      exact ⟨⟨i + 1, by omega, by go_num, HC3, HF3⟩, by simp [intOf]; omega⟩
    · obtain rfl : i = 7 := by omega
      have hl7 := numsS_len 7 st
      obtain ⟨l, hl⟩ : ∃ l, (numsS 7 st).1 = l := ⟨_, rfl⟩
      obtain ⟨s7, hs7⟩ : ∃ l, (numsS 7 st).2 = l := ⟨_, rfl⟩
      rw [hl, hs7] at HC
      rw [hl] at hl7
      have HL := Hold.mk hl
      have HS7 := Hold.mk hs7
      obtain ⟨rest7, e7⟩ := s7
      obtain ⟨a0, a1, a2, a3, a4, a5, a6, rfl⟩ := seven hl7
      have hcb : wr.heap[b + 1]? = some (.cells #[iv a0, iv 0, iv a2, iv a3, iv 0, iv a5, iv a6] 45 (0, 0)) := HC.out.cb
      have hzb := HC.out.zb
      have hwf := cmdOf_wf HC.out.rng
      have hgb := HC.out.gb
      have k1 : wr.cell? ⟨b + 1 + 1, 0, none⟩ = some (iv a1) := by have := HC.out.kb; simp at this; simp [World.cell?, this]
      have k2 : wr.cell? ⟨b + 1 + 1 + 1, 0, none⟩ = some (iv a4) := by have := HC.out.sb; simp at this; simp [World.cell?, this]
      obtain ⟨W1, hW1⟩ : ∃ W, (wr.setCell ⟨b + 1, 1, none⟩ (iv a1)).setCell ⟨b + 1, 4, none⟩ (iv a4) = W := ⟨_, rfl⟩
      have hblk : W1.heap[b + 1]? = some (.cells #[iv a0, iv a1, iv a2, iv a3, iv a4, iv a5, iv a6] 45 (0, 0)) := by
        have := blk_set _ (b + 1) 4 (iv a4) (blk_set wr (b + 1) 1 (iv a1) hcb)
        rw [hW1] at this
        simpa using this
      have hzb1 : W1.heap[b]? = some (.cells #[iv 0, iv 0, iv 0, iv 0, iv 0, iv 0, iv 0] 45 (0, 0)) := by
        rw [← hW1]; exact ((Below.heap_setCell _ _ _ _ (by simp)).trans (Below.heap_setCell _ _ _ _ (by simp))).trans hzb
      have hs1 : W1.heap.size = wr.heap.size := by rw [← hW1]; simp [World.setCell]
      have HR1 : Hold (RAt 131 g J W1 (rest7, e7)) := ⟨by
        rw [← hW1]
        exact (HC.out.r.far (by show b + 1 ≠ g; omega) (fun hj => by have := HC.out.jb _ hj; have : b + 1 < b := this; omega)).far (by show b + 1 ≠ g; omega) (fun hj => by have := HC.out.jb _ hj; have : b + 1 < b := this; omega)⟩
      have HF1 : Hold (Fr (Its g) w W1) := ⟨by
        rw [← hW1]
        exact (HF.out.setCell (.inr (by show w.heap.size ≤ b + 1; have := HBb.out; omega)) _).setCell (.inr (by show w.heap.size ≤ b + 1; have := HBb.out; omega)) _⟩
      have k3 : wr.cell? ⟨b + 1, 1, none⟩ = some (iv 0) := by simp [World.cell?, hcb]
      have k4 : wr.cell? ⟨b + 1, 4, none⟩ = some (iv 0) := by simp [World.cell?, hcb]
      have f3 : wr.frozen? ⟨b + 1, 1, none⟩ = false := by simp [World.frozen?, hcb]
      have f4 : wr.frozen? ⟨b + 1, 4, none⟩ = false := by simp [World.frozen?, hcb]
      have d0 : W1.cell? ⟨b + 1, 0, none⟩ = some (iv a0) := by simp [World.cell?, hblk]
      have d1 : W1.cell? ⟨b + 1, 1, none⟩ = some (iv a1) := by simp [World.cell?, hblk]
      have d2 : W1.cell? ⟨b + 1, 2, none⟩ = some (iv a2) := by simp [World.cell?, hblk]
      have d3 : W1.cell? ⟨b + 1, 3, none⟩ = some (iv a3) := by simp [World.cell?, hblk]
      have d4 : W1.cell? ⟨b + 1, 4, none⟩ = some (iv a4) := by simp [World.cell?, hblk]
      have d5 : W1.cell? ⟨b + 1, 5, none⟩ = some (iv a5) := by simp [World.cell?, hblk]
      have d6 : W1.cell? ⟨b + 1, 6, none⟩ = some (iv a6) := by simp [World.cell?, hblk]
      have HRow : Hold (Rep.Row cmdRep (fun k => True ∨ k = W1.heap.size) (W1.alloc (.cells #[iv a0, iv a1, iv a2, iv a3, iv a4, iv a5, iv a6] 45)) (some ⟨W1.heap.size, 0, none⟩) [⟨a0, a1, a2, a3, a4, a5, a6⟩]) := ⟨Rep.row_box (d := cmdRep) (I := fun _ => True) (x := ⟨a0, a1, a2, a3, a4, a5, a6⟩) (cs := [iv a0, iv a1, iv a2, iv a3, iv a4, iv a5, iv a6]) 45 ⟨rfl, hwf⟩⟩
      have HWf := Hold.mk hwf
      have HBlk := Hold.mk hblk
      have HZb := Hold.mk hzb1
      have HGb := Hold.mk hgb
      have hbl : b + 1 < W1.heap.size := (Array.getElem?_eq_some_iff.1 hblk).1
      have HBl := Hold.mk hbl
      obtain ⟨ok, hok⟩ : ∃ ok, okCmd ⟨a0, a1, a2, a3, a4, a5, a6⟩ = ok := ⟨_, rfl⟩
      have HOk := Hold.mk hok
      have HOks : Hold (okCmds [⟨a0, a1, a2, a3, a4, a5, a6⟩] = ok) := ⟨by simp [okCmds, hok]⟩
      clear hcb hzb hwf hgb hblk hzb1 hs1 hok hl7 hbl
      go_wp2_with fail
      refine (Cmd.right_calls _ 1 1 [⟨a0, a1, a2, a3, a4, a5, a6⟩] _ _ rfl HRow.out ok HOks.out).mono ?_
      rintro e w2 ⟨rfl, HB2⟩
      have hb2 : Below W1.heap.size W1 w2 := ((Below.refl _ _).alloc (Nat.le_refl _) _).trans (HB2.out.mono (by simp))
      have HR2 := Hold.mk (HR1.out.below hb2)
      have HF2 : Hold (Fr (Its g) w w2) := ⟨HF1.out.trans (Fr.of_below (Its g) hb2) (fun _ _ h => h)⟩
      have HBlk2 := Hold.mk ((hb2.block _ HBl.out).trans HBlk.out)
      have HZb2 := Hold.mk ((hb2.block _ (by have := HBl.out; omega)).trans HZb.out)
      have HS2 := Hold.mk hb2.size
      clear hb2 d0 d1 d2 d3 d4 d5 d6 k1 k2 k3 k4 f3 f4 hW1
      have HNums : Hold (numsS 7 st = ([a0, a1, a2, a3, a4, a5, a6], (rest7, e7))) := ⟨by rw [← HL.out, ← HS7.out]⟩
      cases ok
      · by_cases he : e7 = 0
        · have HE : Hold (cmdS st = (zeroCmd, ([], 2))) := ⟨by
            unfold cmdS; rw [HNums.out, he]; simp only [ne_eq, not_true, if_false]; rw [show cmdOf [a0, a1, a2, a3, a4, a5, a6] = ⟨a0, a1, a2, a3, a4, a5, a6⟩ from rfl, if_neg (by rw [HOk.out]; decide)]⟩
          subst he
          go_wp2_with fail
          refine (fail_calls g J w2 rest7 HR2.out 2).mono ?_
          rintro e w3 ⟨rfl, HR3, HF3⟩
          have HF3' : Hold (Fr (Its g) w w3) := ⟨HF2.out.trans HF3.out (fun _ _ h => h)⟩
          have HZb3 : Hold (w3.heap[b]? = some (.cells #[iv 0, iv 0, iv 0, iv 0, iv 0, iv 0, iv 0] 45 (0, 0))) := ⟨(HF3.out.block b (Array.getElem?_eq_some_iff.1 HZb2.out).1 (by have := HGb.out; show ¬ b = g; omega)).trans HZb2.out⟩
          obtain ⟨A3, c3, hb3, _⟩ := HR3.out
          have r1 : w3.cell? ⟨g, 1, none⟩ = some (.int .i64 2) := by simp [World.cell?, hb3]
          have z0 : ∀ i, i < 7 → w3.cell? ⟨b, i, none⟩ = some (iv 0) := fun i hi => by
            rcases (by omega : i = 0 ∨ i = 1 ∨ i = 2 ∨ i = 3 ∨ i = 4 ∨ i = 5 ∨ i = 6) with rfl | rfl | rfl | rfl | rfl | rfl | rfl <;> simp [World.cell?, HZb3.out]
          have y0 := z0 0 (by decide)
          have y1 := z0 1 (by decide)
          have y2 := z0 2 (by decide)
          have y3 := z0 3 (by decide)
          have y4 := z0 4 (by decide)
          have y5 := z0 5 (by decide)
          have y6 := z0 6 (by decide)
          have fz : ∀ i, w3.frozen? ⟨b, i, none⟩ = false := fun i => by simp [World.frozen?, HZb3.out]
          clear hb3 z0
          have HFin := Hold.mk (set7_facts zeroCmd HZb3.out HR3.out (by have := HGb.out; omega) (fun hj => by have := HC.out.jb _ hj; omega) HF3'.out (by have := HBb.out; omega))
          go_wp2
          obtain ⟨W9, hW9⟩ : ∃ W, set7 w3 b zeroCmd = W := ⟨_, rfl⟩
          have hfin := HFin.out
          rw [hW9] at hfin
          have hW9' := hW9
          simp only [set7, zeroCmd] at hW9'
          rw [hW9']
          obtain ⟨q1, q2, q3⟩ := hfin
          have p0 : W9.cell? ⟨b, 0, none⟩ = some (iv (zeroCmd : CmdD).id) := by simp [World.cell?, q1]
          have p1 : W9.cell? ⟨b, 1, none⟩ = some (iv (zeroCmd : CmdD).kind) := by simp [World.cell?, q1]
          have p2 : W9.cell? ⟨b, 2, none⟩ = some (iv (zeroCmd : CmdD).sym) := by simp [World.cell?, q1]
          have p3 : W9.cell? ⟨b, 3, none⟩ = some (iv (zeroCmd : CmdD).tgt) := by simp [World.cell?, q1]
          have p4 : W9.cell? ⟨b, 4, none⟩ = some (iv (zeroCmd : CmdD).side) := by simp [World.cell?, q1]
          have p5 : W9.cell? ⟨b, 5, none⟩ = some (iv (zeroCmd : CmdD).price) := by simp [World.cell?, q1]
          have p6 : W9.cell? ⟨b, 6, none⟩ = some (iv (zeroCmd : CmdD).qty) := by simp [World.cell?, q1]
          exact bodyPost_ret (v := (zeroCmd : CmdD).v) (by simp [results, Try.results23, go_sem, p0, p1, p2, p3, p4, p5, p6]) rfl ⟨by rw [HE.out], by rw [HE.out]; exact q2, q3, by rw [HE.out]; exact zero_wf⟩
        · have HE : Hold (cmdS st = (zeroCmd, (rest7, e7))) := ⟨by unfold cmdS; rw [HNums.out]; rw [if_pos he]⟩
          have t1 : (e7 != 0) = true := by simp [he]
          obtain ⟨A3, c3, hb3, _⟩ := HR2.out
          have r1 : w2.cell? ⟨g, 1, none⟩ = some (.int .i64 e7) := by simp [World.cell?, hb3]
          have HNe := Hold.mk he
          have z0 : ∀ i, i < 7 → w2.cell? ⟨b, i, none⟩ = some (iv 0) := fun i hi => by
            rcases (by omega : i = 0 ∨ i = 1 ∨ i = 2 ∨ i = 3 ∨ i = 4 ∨ i = 5 ∨ i = 6) with rfl | rfl | rfl | rfl | rfl | rfl | rfl <;> simp [World.cell?, HZb2.out]
          have y0 := z0 0 (by decide)
          have y1 := z0 1 (by decide)
          have y2 := z0 2 (by decide)
          have y3 := z0 3 (by decide)
          have y4 := z0 4 (by decide)
          have y5 := z0 5 (by decide)
          have y6 := z0 6 (by decide)
          have fz : ∀ i, w2.frozen? ⟨b, i, none⟩ = false := fun i => by simp [World.frozen?, HZb2.out]
          clear hb3 z0 he
          go_wp2_with fail
          refine (fail_again g J w2 _ HR2.out HNe.out 2).mono ?_
          rintro e w3 ⟨rfl, rfl⟩
          have HFin := Hold.mk (set7_facts zeroCmd HZb2.out HR2.out (by have := HGb.out; omega) (fun hj => by have := HC.out.jb _ hj; omega) HF2.out (by have := HBb.out; omega))
          go_wp2
          obtain ⟨W9, hW9⟩ : ∃ W, set7 w2 b zeroCmd = W := ⟨_, rfl⟩
          have hfin := HFin.out
          rw [hW9] at hfin
          have hW9' := hW9
          simp only [set7, zeroCmd] at hW9'
          rw [hW9']
          obtain ⟨q1, q2, q3⟩ := hfin
          have p0 : W9.cell? ⟨b, 0, none⟩ = some (iv (zeroCmd : CmdD).id) := by simp [World.cell?, q1]
          have p1 : W9.cell? ⟨b, 1, none⟩ = some (iv (zeroCmd : CmdD).kind) := by simp [World.cell?, q1]
          have p2 : W9.cell? ⟨b, 2, none⟩ = some (iv (zeroCmd : CmdD).sym) := by simp [World.cell?, q1]
          have p3 : W9.cell? ⟨b, 3, none⟩ = some (iv (zeroCmd : CmdD).tgt) := by simp [World.cell?, q1]
          have p4 : W9.cell? ⟨b, 4, none⟩ = some (iv (zeroCmd : CmdD).side) := by simp [World.cell?, q1]
          have p5 : W9.cell? ⟨b, 5, none⟩ = some (iv (zeroCmd : CmdD).price) := by simp [World.cell?, q1]
          have p6 : W9.cell? ⟨b, 6, none⟩ = some (iv (zeroCmd : CmdD).qty) := by simp [World.cell?, q1]
          exact bodyPost_ret (v := (zeroCmd : CmdD).v) (by simp [results, Try.results23, go_sem, p0, p1, p2, p3, p4, p5, p6]) rfl ⟨by rw [HE.out], by rw [HE.out]; exact q2, q3, by rw [HE.out]; exact zero_wf⟩
      · by_cases he : e7 = 0
        · have HE : Hold (cmdS st = (⟨a0, a1, a2, a3, a4, a5, a6⟩, (rest7, 0))) := ⟨by
            unfold cmdS; rw [HNums.out, he]; simp only [ne_eq, not_true, if_false]; rw [show cmdOf [a0, a1, a2, a3, a4, a5, a6] = ⟨a0, a1, a2, a3, a4, a5, a6⟩ from rfl, if_pos HOk.out]⟩
          subst he
          obtain ⟨A3, c3, hb3, _⟩ := HR2.out
          have r1 : w2.cell? ⟨g, 1, none⟩ = some (.int .i64 0) := by simp [World.cell?, hb3]
          have d0 : w2.cell? ⟨b + 1, 0, none⟩ = some (iv a0) := by simp [World.cell?, HBlk2.out]
          have d1 : w2.cell? ⟨b + 1, 1, none⟩ = some (iv a1) := by simp [World.cell?, HBlk2.out]
          have d2 : w2.cell? ⟨b + 1, 2, none⟩ = some (iv a2) := by simp [World.cell?, HBlk2.out]
          have d3 : w2.cell? ⟨b + 1, 3, none⟩ = some (iv a3) := by simp [World.cell?, HBlk2.out]
          have d4 : w2.cell? ⟨b + 1, 4, none⟩ = some (iv a4) := by simp [World.cell?, HBlk2.out]
          have d5 : w2.cell? ⟨b + 1, 5, none⟩ = some (iv a5) := by simp [World.cell?, HBlk2.out]
          have d6 : w2.cell? ⟨b + 1, 6, none⟩ = some (iv a6) := by simp [World.cell?, HBlk2.out]
          have z0 : ∀ i, i < 7 → w2.cell? ⟨b, i, none⟩ = some (iv 0) := fun i hi => by
            rcases (by omega : i = 0 ∨ i = 1 ∨ i = 2 ∨ i = 3 ∨ i = 4 ∨ i = 5 ∨ i = 6) with rfl | rfl | rfl | rfl | rfl | rfl | rfl <;> simp [World.cell?, HZb2.out]
          have y0 := z0 0 (by decide)
          have y1 := z0 1 (by decide)
          have y2 := z0 2 (by decide)
          have y3 := z0 3 (by decide)
          have y4 := z0 4 (by decide)
          have y5 := z0 5 (by decide)
          have y6 := z0 6 (by decide)
          have fz : ∀ i, w2.frozen? ⟨b, i, none⟩ = false := fun i => by simp [World.frozen?, HZb2.out]
          clear hb3 z0
          have HFin := Hold.mk (set7_facts ⟨a0, a1, a2, a3, a4, a5, a6⟩ HZb2.out HR2.out (by have := HGb.out; omega) (fun hj => by have := HC.out.jb _ hj; omega) HF2.out (by have := HBb.out; omega))
          go_wp2
          obtain ⟨W9, hW9⟩ : ∃ W, set7 w2 b ⟨a0, a1, a2, a3, a4, a5, a6⟩ = W := ⟨_, rfl⟩
          have hfin := HFin.out
          rw [hW9] at hfin
          have hW9' := hW9
          simp only [set7] at hW9'
          rw [hW9']
          obtain ⟨q1, q2, q3⟩ := hfin
          have p0 : W9.cell? ⟨b, 0, none⟩ = some (iv (⟨a0, a1, a2, a3, a4, a5, a6⟩ : CmdD).id) := by simp [World.cell?, q1]
          have p1 : W9.cell? ⟨b, 1, none⟩ = some (iv (⟨a0, a1, a2, a3, a4, a5, a6⟩ : CmdD).kind) := by simp [World.cell?, q1]
          have p2 : W9.cell? ⟨b, 2, none⟩ = some (iv (⟨a0, a1, a2, a3, a4, a5, a6⟩ : CmdD).sym) := by simp [World.cell?, q1]
          have p3 : W9.cell? ⟨b, 3, none⟩ = some (iv (⟨a0, a1, a2, a3, a4, a5, a6⟩ : CmdD).tgt) := by simp [World.cell?, q1]
          have p4 : W9.cell? ⟨b, 4, none⟩ = some (iv (⟨a0, a1, a2, a3, a4, a5, a6⟩ : CmdD).side) := by simp [World.cell?, q1]
          have p5 : W9.cell? ⟨b, 5, none⟩ = some (iv (⟨a0, a1, a2, a3, a4, a5, a6⟩ : CmdD).price) := by simp [World.cell?, q1]
          have p6 : W9.cell? ⟨b, 6, none⟩ = some (iv (⟨a0, a1, a2, a3, a4, a5, a6⟩ : CmdD).qty) := by simp [World.cell?, q1]
          exact bodyPost_ret (v := (⟨a0, a1, a2, a3, a4, a5, a6⟩ : CmdD).v) (by simp [results, Try.results23, go_sem, p0, p1, p2, p3, p4, p5, p6]) rfl ⟨by rw [HE.out], by rw [HE.out]; exact q2, q3, by rw [HE.out]; exact HWf.out⟩
        · have HE : Hold (cmdS st = (zeroCmd, (rest7, e7))) := ⟨by unfold cmdS; rw [HNums.out]; rw [if_pos he]⟩
          have t1 : (e7 != 0) = true := by simp [he]
          obtain ⟨A3, c3, hb3, _⟩ := HR2.out
          have r1 : w2.cell? ⟨g, 1, none⟩ = some (.int .i64 e7) := by simp [World.cell?, hb3]
          have z0 : ∀ i, i < 7 → w2.cell? ⟨b, i, none⟩ = some (iv 0) := fun i hi => by
            rcases (by omega : i = 0 ∨ i = 1 ∨ i = 2 ∨ i = 3 ∨ i = 4 ∨ i = 5 ∨ i = 6) with rfl | rfl | rfl | rfl | rfl | rfl | rfl <;> simp [World.cell?, HZb2.out]
          have y0 := z0 0 (by decide)
          have y1 := z0 1 (by decide)
          have y2 := z0 2 (by decide)
          have y3 := z0 3 (by decide)
          have y4 := z0 4 (by decide)
          have y5 := z0 5 (by decide)
          have y6 := z0 6 (by decide)
          have fz : ∀ i, w2.frozen? ⟨b, i, none⟩ = false := fun i => by simp [World.frozen?, HZb2.out]
          clear hb3 z0 he
          have HFin := Hold.mk (set7_facts zeroCmd HZb2.out HR2.out (by have := HGb.out; omega) (fun hj => by have := HC.out.jb _ hj; omega) HF2.out (by have := HBb.out; omega))
          go_wp2
          obtain ⟨W9, hW9⟩ : ∃ W, set7 w2 b zeroCmd = W := ⟨_, rfl⟩
          have hfin := HFin.out
          rw [hW9] at hfin
          have hW9' := hW9
          simp only [set7, zeroCmd] at hW9'
          rw [hW9']
          obtain ⟨q1, q2, q3⟩ := hfin
          have p0 : W9.cell? ⟨b, 0, none⟩ = some (iv (zeroCmd : CmdD).id) := by simp [World.cell?, q1]
          have p1 : W9.cell? ⟨b, 1, none⟩ = some (iv (zeroCmd : CmdD).kind) := by simp [World.cell?, q1]
          have p2 : W9.cell? ⟨b, 2, none⟩ = some (iv (zeroCmd : CmdD).sym) := by simp [World.cell?, q1]
          have p3 : W9.cell? ⟨b, 3, none⟩ = some (iv (zeroCmd : CmdD).tgt) := by simp [World.cell?, q1]
          have p4 : W9.cell? ⟨b, 4, none⟩ = some (iv (zeroCmd : CmdD).side) := by simp [World.cell?, q1]
          have p5 : W9.cell? ⟨b, 5, none⟩ = some (iv (zeroCmd : CmdD).price) := by simp [World.cell?, q1]
          have p6 : W9.cell? ⟨b, 6, none⟩ = some (iv (zeroCmd : CmdD).qty) := by simp [World.cell?, q1]
          exact bodyPost_ret (v := (zeroCmd : CmdD).v) (by simp [results, Try.results23, go_sem, p0, p1, p2, p3, p4, p5, p6]) rfl ⟨by rw [HE.out], by rw [HE.out]; exact q2, q3, by rw [HE.out]; exact zero_wf⟩
end Go.Proofs.Ytebhclgnpnlekaa.Rd
