/- Merging in place, by exchanges: the plain law of symMerge, rotate and swapRange over arrays; no program in sight. No condition. -/
import Derived.Sort.LotA
namespace Go.Proofs.Ytebhclgnpnlekaa.SortLaw
open Go.Sort
variable {α : Type} [Inhabited α] {lt : α → α → Bool}

/-! ### swapRange -/
def swapsR (d : Array α) (a b : Nat) : Nat → Array α
  | 0 => d
  | n + 1 => swp (swapsR d a b n) (a + n) (b + n)
theorem swapsR_size (d : Array α) (a b n : Nat) : (swapsR d a b n).size = d.size := by
  induction n with
  | zero => rfl
  | succ n ih => rw [swapsR, swp_size, ih]
theorem swapsR_get (d : Array α) (a b n : Nat) (h1 : a + n ≤ b) (h2 : b + n ≤ d.size) (u : Nat) :
    (swapsR d a b n)[u]! = if a ≤ u ∧ u < a + n then d[u + (b - a)]! else if b ≤ u ∧ u < b + n then d[u - (b - a)]! else d[u]! := by
  induction n generalizing u with
  | zero => rw [swapsR, if_neg (by omega), if_neg (by omega)]
  | succ n ih =>
    have ih := ih (by omega) (by omega)
    rw [swapsR, swp_get _ (by rw [swapsR_size]; omega) (by rw [swapsR_size]; omega), ih, ih, ih]
    repeat' split
    all_goals first | rfl | (exfalso; omega) | (congr 1; omega)
theorem swapsR_perm (d : Array α) (a b n lo hi : Nat) (h0 : lo ≤ a) (h1 : a + n ≤ b) (h2 : b + n ≤ hi) (h3 : hi ≤ d.size) : PermIn lo hi d (swapsR d a b n) := by
  induction n with
  | zero => exact permIn_refl _ _ _
  | succ n ih =>
    refine permIn_trans _ _ _ _ _ (ih (by omega) (by omega)) ?_
    exact swp_permIn _ _ _ _ _ (by omega) (by omega) (by omega) (by omega) (by rw [swapsR_size]; exact h3)

/-! ### rotate -/
/-- Two neighbours, changed over. -/
def rotOf (d : Array α) (a m b u : Nat) : α := if u < a ∨ b ≤ u then d[u]! else if u < a + (b - m) then d[u + (m - a)]! else d[u - (b - m)]!
/-- What stands while it turns: what is left to turn gives what the whole gives. -/
structure Rot (d : Array α) (a m b : Nat) (dk : Array α) (i j : Nat) : Prop where
  size : dk.size = d.size
  perm : PermIn a b d dk
  i1 : 1 ≤ i
  j1 : 1 ≤ j
  ia : a + i ≤ m
  jb : m + j ≤ b
  eq : ∀ u, rotOf dk (m - i) m (m + j) u = rotOf d a m b u
theorem Rot.start (d : Array α) (a m b : Nat) (h1 : a < m) (h2 : m < b) : Rot d a m b d (m - a) (b - m) :=
  ⟨rfl, permIn_refl _ _ _, by omega, by omega, by omega, by omega, fun u => by rw [show m - (m - a) = a by omega, show m + (b - m) = b by omega]⟩
theorem Rot.left {d dk : Array α} {a m b i j : Nat} (h : Rot d a m b dk i j) (hb : b ≤ d.size) (hij : j < i) : Rot d a m b (swapsR dk (m - i) m j) (i - j) j := by
  have hs := h.size
  have h1 := h.i1; have h2 := h.j1; have h3 := h.ia; have h4 := h.jb
  refine ⟨by rw [swapsR_size, hs], permIn_trans _ _ _ _ _ h.perm (swapsR_perm _ _ _ _ _ _ (by omega) (by omega) (by omega) (by omega)), by omega, by omega, by omega, by omega, fun u => ?_⟩
  rw [← h.eq u]
  have hg := swapsR_get dk (m - i) m j (by omega) (by omega)
  unfold rotOf
  simp only [hg]
  repeat' split
  all_goals first | rfl | (exfalso; omega) | (congr 1; omega)
theorem Rot.right {d dk : Array α} {a m b i j : Nat} (h : Rot d a m b dk i j) (hb : b ≤ d.size) (hij : i < j) : Rot d a m b (swapsR dk (m - i) (m + j - i) i) i (j - i) := by
  have hs := h.size
  have h1 := h.i1; have h2 := h.j1; have h3 := h.ia; have h4 := h.jb
  refine ⟨by rw [swapsR_size, hs], permIn_trans _ _ _ _ _ h.perm (swapsR_perm _ _ _ _ _ _ (by omega) (by omega) (by omega) (by omega)), by omega, by omega, by omega, by omega, fun u => ?_⟩
  rw [← h.eq u]
  have hg := swapsR_get dk (m - i) (m + j - i) i (by omega) (by omega)
  unfold rotOf
  simp only [hg]
  repeat' split
  all_goals first | rfl | (exfalso; omega) | (congr 1; omega)
theorem Rot.stop {d dk : Array α} {a m b i : Nat} (h : Rot d a m b dk i i) (hb : b ≤ d.size) (u : Nat) : (swapsR dk (m - i) m i)[u]! = rotOf d a m b u := by
  have hs := h.size
  have h1 := h.i1; have h3 := h.ia; have h4 := h.jb
  rw [← h.eq u, swapsR_get dk (m - i) m i (by omega) (by omega) u]
  unfold rotOf
  repeat' split
  all_goals first | rfl | (exfalso; omega) | (congr 1; omega)
theorem Rot.last {d dk : Array α} {a m b i : Nat} (h : Rot d a m b dk i i) (hb : b ≤ d.size) : PermIn a b d (swapsR dk (m - i) m i) := by
  have hs := h.size
  have h1 := h.i1; have h3 := h.ia; have h4 := h.jb
  exact permIn_trans _ _ _ _ _ h.perm (swapsR_perm _ _ _ _ _ _ (by omega) (by omega) (by omega) (by omega))
/-- What rotate leaves. -/
structure Rotated (d : Array α) (a m b : Nat) (d' : Array α) : Prop where
  perm : PermIn a b d d'
  get : ∀ u, d'[u]! = rotOf d a m b u

/-! ### One element into the others -/
/-- What lay at a has come to k. -/
structure ShR (d : Array α) (a k : Nat) (dk : Array α) : Prop where
  size : dk.size = d.size
  get : ∀ u, dk[u]! = if a ≤ u ∧ u < k then d[u + 1]! else if u = k then d[a]! else d[u]!
theorem ShR.start (d : Array α) (a : Nat) : ShR d a a d := ⟨rfl, fun u => by
  by_cases e : u = a
  · subst e; rw [if_neg (by omega), if_pos rfl]
  · rw [if_neg (by omega), if_neg e]⟩
theorem ShR.step {d dk : Array α} {a k : Nat} (h : ShR d a k dk) (hak : a ≤ k) (hk : k + 1 < d.size) : ShR d a (k + 1) (swp dk k (k + 1)) := by
  have hs := h.size
  refine ⟨by rw [swp_size, hs], fun u => ?_⟩
  rw [swp_get _ (by omega) (by omega), h.get, h.get, h.get]
  repeat' split
  all_goals first | rfl | (exfalso; omega) | (congr 1; omega)
theorem shR_perm (d : Array α) (a b : Nat) (hb : b ≤ d.size) : ∀ k, a ≤ k → k < b → ∀ dk, ShR d a k dk → PermIn a b d dk := by
  intro k
  induction k with
  | zero =>
    intro h1 _ dk h
    obtain rfl : a = 0 := by omega
    have : dk = d := by
      refine Array.ext h.size fun i hi hi' => ?_
      have := h.get i
      rw [if_neg (by omega)] at this
      split at this
      · rename_i e; subst e; rwa [getElem!_pos dk 0 hi, getElem!_pos d 0 hi'] at this
      · rwa [getElem!_pos dk i hi, getElem!_pos d i hi'] at this
    rw [this]; exact permIn_refl _ _ _
  | succ k ih =>
    intro h1 h2 dk h
    by_cases e : a = k + 1
    · have : dk = d := by
        refine Array.ext h.size fun i hi hi' => ?_
        have := h.get i
        rw [if_neg (by omega)] at this
        split at this
        · rename_i e'; subst e'; rw [getElem!_pos dk _ hi] at this; rw [this, e, getElem!_pos d _ hi']
        · rwa [getElem!_pos dk i hi, getElem!_pos d i hi'] at this
      rw [this]; exact permIn_refl _ _ _
    · have hs := h.size
      have h' : ShR d a k (swp dk k (k + 1)) := by
        refine ⟨by rw [swp_size, hs], fun u => ?_⟩
        rw [swp_get _ (by omega) (by omega), h.get, h.get, h.get]
        repeat' split
        all_goals first | rfl | (exfalso; omega) | (congr 1; omega)
      have hp := ih (by omega) (by omega) _ h'
      have hq : PermIn a b (swp dk k (k + 1)) (swp (swp dk k (k + 1)) k (k + 1)) := swp_permIn _ _ _ _ _ (by omega) (by omega) (by omega) (by omega) (by rw [swp_size]; omega)
      have hid : swp (swp dk k (k + 1)) k (k + 1) = dk := by
        refine Array.ext (by rw [swp_size, swp_size]) fun i hi hi' => ?_
        have hg := swp_get (swp dk k (k + 1)) (i := k) (j := k + 1) (by rw [swp_size]; omega) (by rw [swp_size]; omega) i
        rw [swp_get dk (by omega) (by omega), swp_get dk (by omega) (by omega), swp_get dk (by omega) (by omega)] at hg
        rw [getElem!_pos _ i hi] at hg
        rw [hg, ← getElem!_pos dk i hi']
        repeat' split
        all_goals first | rfl | (exfalso; omega) | (congr 1; omega)
      rw [hid] at hq
      exact permIn_trans _ _ _ _ _ hp hq
/-- What lay at m has come down to k. -/
structure ShL (d : Array α) (m k : Nat) (dk : Array α) : Prop where
  size : dk.size = d.size
  get : ∀ u, dk[u]! = if k < u ∧ u ≤ m then d[u - 1]! else if u = k then d[m]! else d[u]!
theorem ShL.start (d : Array α) (m : Nat) : ShL d m m d := ⟨rfl, fun u => by
  by_cases e : u = m
  · subst e; rw [if_neg (by omega), if_pos rfl]
  · rw [if_neg (by omega), if_neg e]⟩
theorem ShL.step {d dk : Array α} {m k : Nat} (h : ShL d m (k + 1) dk) (hkm : k + 1 ≤ m) (hm : m < d.size) : ShL d m k (swp dk (k + 1) k) := by
  have hs := h.size
  refine ⟨by rw [swp_size, hs], fun u => ?_⟩
  rw [swp_get _ (by omega) (by omega), h.get, h.get, h.get]
  repeat' split
  all_goals first | rfl | (exfalso; omega) | (congr 1; omega)

/-! ### Sorted parts -/
theorem SortedIn.le' (hS : SWO lt) {a b : Nat} {d : Array α} (h : SortedIn lt a b d) {i j : Nat} (hi : a ≤ i) (hij : i ≤ j) (hj : j < b) : lt d[j]! d[i]! = false := by
  by_cases e : i = j
  · subst e; exact hS.irrefl _
  · exact h i j hi (by omega) hj
theorem SortedIn.sub {a b a' b' : Nat} {d : Array α} (h : SortedIn lt a b d) (ha : a ≤ a') (hb : b' ≤ b) : SortedIn lt a' b' d := fun i j h1 h2 h3 => h i j (by omega) h2 (by omega)
theorem SortedIn.same {a b : Nat} {d d' : Array α} (h : SortedIn lt a b d) (he : ∀ u, a ≤ u → u < b → d'[u]! = d[u]!) : SortedIn lt a b d' := fun i j h1 h2 h3 => by
  rw [he i h1 (by omega), he j (by omega) h3]; exact h i j h1 h2 h3
theorem SortedIn.one (a : Nat) (d : Array α) : SortedIn lt a (a + 1) d := fun i j h1 h2 h3 => by omega
theorem SortedIn.none {a b : Nat} (d : Array α) (h : b ≤ a) : SortedIn lt a b d := fun i j h1 h2 h3 => by omega
omit [Inhabited α] in
theorem ntr (hS : SWO lt) {x y z : α} (h1 : lt x y = false) (h2 : lt y z = false) : lt x z = false := hS.ntrans x y z h1 h2

/-- The only one of the left, into the right. -/
theorem ins_right (hS : SWO lt) {d dk : Array α} {a b i : Nat} (hi : a + 1 ≤ i) (hib : i ≤ b) (hr : SortedIn lt (a + 1) b d) (h1 : i = a + 1 ∨ lt d[i - 1]! d[a]! = true) (h2 : i = b ∨ lt d[i]! d[a]! = false) (h : ShR d a (i - 1) dk) : SortedIn lt a b dk := by
  have k1 : ∀ u, a + 1 ≤ u → u < i → lt d[u]! d[a]! = true := fun u hu hui => by
    rcases h1 with h1 | h1
    · omega
    · cases hx : lt d[u]! d[a]! with
      | true => rfl
      | false =>
        have := ntr hS (SortedIn.le' hS hr hu (show u ≤ i - 1 by omega) (by omega)) hx
        rw [h1] at this; cases this
  have k2 : ∀ u, i ≤ u → u < b → lt d[u]! d[a]! = false := fun u hu hub => by
    rcases h2 with h2 | h2
    · omega
    · exact ntr hS (SortedIn.le' hS hr (by omega) hu hub) h2
  intro u v hu huv hv
  rw [h.get u, h.get v]
  repeat' split
  all_goals first | (exfalso; omega) | exact hr _ _ (by omega) (by omega) (by omega) | exact k2 _ (by omega) (by omega) | exact hS.asymmA (k1 _ (by omega) (by omega))
/-- The only one of the right, into the left. -/
theorem ins_left (hS : SWO lt) {d dk : Array α} {a m i : Nat} (hi : a ≤ i) (him : i ≤ m) (hr : SortedIn lt a m d) (h1 : i = a ∨ lt d[m]! d[i - 1]! = false) (h2 : i = m ∨ lt d[m]! d[i]! = true) (h : ShL d m i dk) : SortedIn lt a (m + 1) dk := by
  have k1 : ∀ u, a ≤ u → u < i → lt d[m]! d[u]! = false := fun u hu hui => by
    rcases h1 with h1 | h1
    · omega
    · exact ntr hS h1 (SortedIn.le' hS hr hu (show u ≤ i - 1 by omega) (by omega))
  have k2 : ∀ u, i ≤ u → u < m → lt d[u]! d[m]! = false := fun u hu hum => by
    rcases h2 with h2 | h2
    · omega
    · exact ntr hS (SortedIn.le' hS hr (by omega) hu hum) (hS.asymmA h2)
  intro u v hu huv hv
  rw [h.get u, h.get v]
  repeat' split
  all_goals first | (exfalso; omega) | exact hr _ _ (by omega) (by omega) (by omega) | exact k2 _ (by omega) (by omega) | exact k1 _ (by omega) (by omega)

/-! ### The merge's search, and what follows -/
/-- What the search finds: how many of the left and of the right come first. -/
structure Cut (lt : α → α → Bool) (d : Array α) (a m b s e : Nat) : Prop where
  as : a ≤ s
  sm : s ≤ m
  me : m ≤ e
  eb : e ≤ b
  one : s = a ∨ e = b ∨ lt d[e]! d[s - 1]! = false
  two : s = m ∨ e = m ∨ lt d[e - 1]! d[s]! = true
/-- What comes first, of both, is before what comes then. -/
theorem Cut.cross (hS : SWO lt) {d : Array α} {a m b s e : Nat} (h : Cut lt d a m b s e) (h1 : SortedIn lt a m d) (h2 : SortedIn lt m b d) :
    ∀ u v, ((a ≤ u ∧ u < s) ∨ (m ≤ u ∧ u < e)) → ((s ≤ v ∧ v < m) ∨ (e ≤ v ∧ v < b)) → lt d[v]! d[u]! = false := by
  obtain ⟨as, sm, me, eb, one, two⟩ := h
  intro u v hu hv
  rcases hu with hu | hu <;> rcases hv with hv | hv
  · exact h1 u v hu.1 (by omega) hv.2
  · rcases one with h | h | h
    · omega
    · omega
    · exact ntr hS (ntr hS (SortedIn.le' hS h2 me hv.1 hv.2) h) (SortedIn.le' hS h1 hu.1 (show u ≤ s - 1 by omega) (by omega))
  · rcases two with h | h | h
    · omega
    · omega
    · exact ntr hS (ntr hS (SortedIn.le' hS h1 as hv.1 hv.2) (hS.asymmA h)) (SortedIn.le' hS h2 hu.1 (show u ≤ e - 1 by omega) (by omega))
  · exact h2 u v hu.1 (by omega) hv.2
/-- Behind the turn (or where there is none to do): both halves stand side by side. -/
structure Turned (lt : α → α → Bool) (d : Array α) (a m b s e : Nat) (d1 : Array α) : Prop where
  perm : PermIn a b d d1
  l1 : SortedIn lt a s d1
  l2 : SortedIn lt s (s + (e - m)) d1
  r1 : SortedIn lt (s + (e - m)) e d1
  r2 : SortedIn lt e b d1
  cross : ∀ u v, a ≤ u → u < s + (e - m) → s + (e - m) ≤ v → v < b → lt d1[v]! d1[u]! = false
theorem Cut.turned (hS : SWO lt) {d d1 : Array α} {a m b s e : Nat} (h : Cut lt d a m b s e) (hb : b ≤ d.size) (h1 : SortedIn lt a m d) (h2 : SortedIn lt m b d) (hp : PermIn a b d d1) (hg : ∀ u, d1[u]! = rotOf d s m e u) : Turned lt d a m b s e d1 := by
  have hx := h.cross hS h1 h2
  obtain ⟨as, sm, me, eb, _, _⟩ := h
  have g1 : ∀ u, u < s → d1[u]! = d[u]! := fun u hu => by rw [hg, rotOf, if_pos (by omega)]
  have g2 : ∀ u, s ≤ u → u < s + (e - m) → d1[u]! = d[u + (m - s)]! := fun u hu hu' => by rw [hg, rotOf, if_neg (by omega), if_pos hu']
  have g3 : ∀ u, s + (e - m) ≤ u → u < e → d1[u]! = d[u - (e - m)]! := fun u hu hu' => by rw [hg, rotOf, if_neg (by omega), if_neg (by omega)]
  have g4 : ∀ u, e ≤ u → d1[u]! = d[u]! := fun u hu => by rw [hg, rotOf, if_pos (by omega)]
  refine ⟨hp, fun i j q1 q2 q3 => ?_, fun i j q1 q2 q3 => ?_, fun i j q1 q2 q3 => ?_, fun i j q1 q2 q3 => ?_, fun u v q1 q2 q3 q4 => ?_⟩
  · rw [g1 i (by omega), g1 j q3]; exact h1 i j q1 q2 (by omega)
  · rw [g2 i q1 (by omega), g2 j (by omega) q3]; exact h2 _ _ (by omega) (by omega) (by omega)
  · rw [g3 i q1 (by omega), g3 j (by omega) q3]; exact h1 _ _ (by omega) (by omega) (by omega)
  · rw [g4 i q1, g4 j (by omega)]; exact h2 _ _ (by omega) q2 q3
  · by_cases c1 : u < s
    · rw [g1 u c1]
      by_cases c2 : v < e
      · rw [g3 v q3 c2]; exact hx _ _ (.inl ⟨q1, c1⟩) (.inl ⟨by omega, by omega⟩)
      · rw [g4 v (by omega)]; exact hx _ _ (.inl ⟨q1, c1⟩) (.inr ⟨by omega, q4⟩)
    · rw [g2 u (by omega) q2]
      by_cases c2 : v < e
      · rw [g3 v q3 c2]; exact hx _ _ (.inr ⟨by omega, by omega⟩) (.inl ⟨by omega, by omega⟩)
      · rw [g4 v (by omega)]; exact hx _ _ (.inr ⟨by omega, by omega⟩) (.inr ⟨by omega, q4⟩)
/-- Where nothing is to be turned. -/
theorem Cut.still (hS : SWO lt) {d : Array α} {a m b s e : Nat} (h : Cut lt d a m b s e) (hb : b ≤ d.size) (h1 : SortedIn lt a m d) (h2 : SortedIn lt m b d) (hn : s = m ∨ e = m) : Turned lt d a m b s e d := by
  refine h.turned hS hb h1 h2 (permIn_refl _ _ _) fun u => ?_
  obtain ⟨as, sm, me, eb, _, _⟩ := h
  rw [rotOf]
  by_cases c : u < s ∨ e ≤ u
  · rw [if_pos c]
  · rw [if_neg c]
    rcases hn with rfl | rfl
    · rw [if_pos (by omega)]; congr 1; omega
    · rw [if_neg (by omega)]; congr 1; omega
/-- Behind both halves' own merges. -/
theorem Turned.whole {d d1 d2 d3 : Array α} {a m b s e : Nat} (h : Turned lt d a m b s e d1) (hb : b ≤ d.size) (hmid : a ≤ s + (e - m)) (hmb : s + (e - m) ≤ b) (p2 : PermIn a (s + (e - m)) d1 d2) (s2 : SortedIn lt a (s + (e - m)) d2) (p3 : PermIn (s + (e - m)) b d2 d3) (s3 : SortedIn lt (s + (e - m)) b d3) :
    PermIn a b d d3 ∧ SortedIn lt a b d3 := by
  have z1 := h.perm.1
  have z2 := p2.1
  have hc := h.cross
  have hp1 := h.perm
  generalize s + (e - m) = md at *
  refine ⟨permIn_trans _ _ _ _ _ hp1 (permIn_trans _ _ _ _ _ (permIn_mono _ _ _ _ _ _ (Nat.le_refl _) hmb (by omega) p2) (permIn_mono _ _ _ _ _ _ hmid (Nat.le_refl _) (by omega) p3)), fun u v hu huv hv => ?_⟩
  have c1 : ∀ v, md ≤ v → v < b → ∀ u, a ≤ u → u < md → lt d2[v]! d2[u]! = false := fun v hv1 hv2 => by
    have := permIn_all d1 d2 a md (fun x => lt d1[v]! x = false) (by omega) p2 (fun i q1 q2 => hc i v q1 q2 hv1 hv2)
    intro u q1 q2
    rw [p2.2.1 v (.inr hv1)]
    exact this u q1 q2
  have c2 : ∀ u, a ≤ u → u < md → ∀ v, md ≤ v → v < b → lt d3[v]! d3[u]! = false := fun u q1 q2 v hv1 hv2 => by
    have := permIn_all d2 d3 md b (fun x => lt x d2[u]! = false) (by omega) p3 (fun i q3 q4 => c1 i q3 q4 u q1 q2) v hv1 hv2
    rw [p3.2.1 u (.inl q2)]
    exact this
  by_cases q1 : v < md
  · rw [p3.2.1 u (.inl (by omega)), p3.2.1 v (.inl q1)]; exact s2 u v hu huv q1
  · by_cases q2 : u < md
    · exact c2 u hu q2 v (by omega) hv
    · exact s3 u v (by omega) huv hv

/-! ### Blocks -/
/-- Each block of s is sorted, up to n. -/
def Blocks (lt : α → α → Bool) (s n : Nat) (d : Array α) : Prop := ∀ t, SortedIn lt (t * s) (min (t * s + s) n) d
/-- Those of twice the size, up to the t-th; the others of the size. -/
structure Half (lt : α → α → Bool) (s n t : Nat) (d : Array α) : Prop where
  done : ∀ q, q < t → SortedIn lt (q * (2 * s)) (min (q * (2 * s) + 2 * s) n) d
  rest : ∀ q, 2 * t ≤ q → SortedIn lt (q * s) (min (q * s + s) n) d
theorem Half.start {s n : Nat} {d : Array α} (h : Blocks lt s n d) : Half lt s n 0 d := ⟨fun q hq => by omega, fun q _ => h q⟩
theorem mul2 (t s : Nat) : t * (2 * s) = 2 * t * s := by rw [← Nat.mul_assoc, Nat.mul_comm t 2]
theorem Half.parts {s n t : Nat} {d : Array α} (h : Half lt s n t d) : SortedIn lt (t * (2 * s)) (min (t * (2 * s) + s) n) d ∧ SortedIn lt (t * (2 * s) + s) (min (t * (2 * s) + 2 * s) n) d := by
  have h1 := h.rest (2 * t) (Nat.le_refl _)
  have h2 := h.rest (2 * t + 1) (by omega)
  rw [Nat.add_mul, Nat.one_mul] at h2
  rw [← mul2] at h1 h2
  refine ⟨h1, ?_⟩
  rwa [show t * (2 * s) + 2 * s = t * (2 * s) + s + s by omega]
theorem Half.step {s n t : Nat} {d d' : Array α} (h : Half lt s n t d) (hp : PermIn (t * (2 * s)) (min (t * (2 * s) + 2 * s) n) d d') (hs : SortedIn lt (t * (2 * s)) (min (t * (2 * s) + 2 * s) n) d') : Half lt s n (t + 1) d' := by
  refine ⟨fun q hq => ?_, fun q hq => ?_⟩
  · by_cases e : q = t
    · subst e; exact hs
    · refine SortedIn.same (h.done q (by omega)) fun u hu hu' => hp.2.1 u (.inl ?_)
      have : (q + 1) * (2 * s) ≤ t * (2 * s) := Nat.mul_le_mul_right _ (by omega)
      rw [Nat.add_mul, Nat.one_mul] at this
      omega
  · refine SortedIn.same (h.rest q (by omega)) fun u hu hu' => hp.2.1 u (.inr ?_)
    have : 2 * (t + 1) * s ≤ q * s := Nat.mul_le_mul_right _ hq
    rw [← mul2, Nat.add_mul, Nat.one_mul] at this
    omega
theorem Half.stop {s n t : Nat} {d : Array α} (h : Half lt s n t d) (hn : n ≤ t * (2 * s) + s) : Blocks lt (2 * s) n d := fun q => by
  by_cases c : q < t
  · exact h.done q c
  · by_cases e : q = t
    · subst e
      refine SortedIn.sub (h.parts.1) (Nat.le_refl _) ?_
      omega
    · refine SortedIn.none _ ?_
      have : (t + 1) * (2 * s) ≤ q * (2 * s) := Nat.mul_le_mul_right _ (by omega)
      rw [Nat.add_mul, Nat.one_mul] at this
      omega
theorem Half.stop' {s n t : Nat} {d : Array α} (h : Half lt s n t d) (hn : n ≤ t * (2 * s)) : Blocks lt (2 * s) n d := h.stop (by omega)
theorem Blocks.sorted {s n : Nat} {d : Array α} (h : Blocks lt s n d) (hn : n ≤ s) : SortedIn lt 0 n d := by
  have := h 0
  rw [Nat.zero_mul, Nat.zero_add, Nat.min_eq_right hn] at this
  exact this
/-- While the blocks are made. -/
def Made (lt : α → α → Bool) (s t : Nat) (d : Array α) : Prop := ∀ q, q < t → SortedIn lt (q * s) (q * s + s) d
theorem Made.step {s t n : Nat} {d d' : Array α} (h : Made lt s t d) (hp : PermIn (t * s) n d d') (hs : SortedIn lt (t * s) (t * s + s) d') : Made lt s (t + 1) d' := fun q hq => by
  by_cases e : q = t
  · subst e; exact hs
  · refine SortedIn.same (h q (by omega)) fun u hu hu' => hp.2.1 u (.inl ?_)
    have : (q + 1) * s ≤ t * s := Nat.mul_le_mul_right _ (by omega)
    rw [Nat.add_mul, Nat.one_mul] at this
    omega
theorem Made.blocks {s t n : Nat} {d d' : Array α} (h : Made lt s t d) (hp : PermIn (t * s) n d d') (hs : SortedIn lt (t * s) n d') (hn : n < t * s + s) : Blocks lt s n d' := fun q => by
  by_cases c : q < t
  · refine SortedIn.sub (SortedIn.same (h q c) fun u hu hu' => hp.2.1 u (.inl ?_)) (Nat.le_refl _) (Nat.min_le_left _ _)
    have : (q + 1) * s ≤ t * s := Nat.mul_le_mul_right _ (by omega)
    rw [Nat.add_mul, Nat.one_mul] at this
    omega
  · by_cases e : q = t
    · subst e; exact SortedIn.sub hs (Nat.le_refl _) (Nat.min_le_right _ _)
    · refine SortedIn.none _ ?_
      have : (t + 1) * s ≤ q * s := Nat.mul_le_mul_right _ (by omega)
      rw [Nat.add_mul, Nat.one_mul] at this
      omega
end Go.Proofs.Ytebhclgnpnlekaa.SortLaw
