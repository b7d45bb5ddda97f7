/- In the order of time: the plain law. Of entries that have different times, each with all of its symbol that have a lesser one as predecessors, what comes of a symbol comes with rising times, and of some of them it is a beginning of that. No condition. -/
import Derived.Test.YtebhclgnpnlekaaOrdA
namespace Go.Proofs.Ytebhclgnpnlekaa.Ord
open Go.Proofs.Ytebhclgnpnlekaa.B Go.Proofs.Ytebhclgnpnlekaa.Cmd Go.Proofs.Ytebhclgnpnlekaa.Ent
abbrev QE.sym (q : QE) : Int := q.er.c.sym
/-- Entries as law 17's OrderTimes makes them. -/
structure Good (E : List QE) : Prop where
  id : ∀ x ∈ E, ∀ y ∈ E, x.id = y.id → x = y
  t : ∀ x ∈ E, ∀ y ∈ E, x.t = y.t → x = y
  dn : ∀ x ∈ E, x.dn = true
  ps : ∀ x ∈ E, ∀ c ∈ x.ps, c.id ≠ x.id ∧ ∃ y ∈ E, y.er.c = c
  low : ∀ x ∈ E, ∀ y ∈ E, y.sym = x.sym → y.t < x.t → y.er.c ∈ x.ps
/-- What comes, one behind the other: each has all of its symbol, with a lesser time, ahead. -/
structure Chain (E : List QE) (s : Int) (F : List QE) : Prop where
  mem : ∀ x ∈ F, x ∈ E ∧ x.sym = s
  low : ∀ (k : Nat) (hk : k < F.length), ∀ z ∈ E, z.sym = s → z.t < F[k].t → z ∈ F.take k
  new : ∀ (k : Nat) (hk : k < F.length), F[k] ∉ F.take k
theorem Chain.nil (E : List QE) (s : Int) : Chain E s [] := ⟨by simp, fun k hk => by simp at hk, fun k hk => by simp at hk⟩
theorem Chain.snoc {E F : List QE} {s : Int} {e : QE} (h : Chain E s F) (he : e ∈ E) (hs : e.sym = s) (hl : ∀ z ∈ E, z.sym = s → z.t < e.t → z ∈ F) (hn : e ∉ F) : Chain E s (F ++ [e]) := by
  refine ⟨fun x hx => ?_, fun k hk z hz h1 h2 => ?_, fun k hk => ?_⟩
  · rcases List.mem_append.1 hx with hx | hx
    · exact h.mem x hx
    · rw [List.mem_singleton.1 hx]; exact ⟨he, hs⟩
  · by_cases hlt : k < F.length
    · rw [List.getElem_append_left hlt] at h2
      rw [List.take_append_of_le_length (by omega)]
      exact h.low k hlt z hz h1 h2
    · have hk' : k = F.length := by simp at hk; omega
      subst hk'
      rw [List.getElem_append_right (Nat.le_refl _)] at h2
      simp only [Nat.sub_self, List.getElem_cons_zero] at h2
      rw [List.take_append_of_le_length (Nat.le_refl _), List.take_length]
      exact hl z hz h1 h2
  · by_cases hlt : k < F.length
    · rw [List.getElem_append_left hlt, List.take_append_of_le_length (by omega)]
      exact h.new k hlt
    · have hk' : k = F.length := by simp at hk; omega
      subst hk'
      rw [List.getElem_append_right (Nat.le_refl _), List.take_append_of_le_length (Nat.le_refl _), List.take_length]
      simpa using hn
theorem Chain.rise {E F : List QE} {s : Int} (hE : Good E) (h : Chain E s F) (k : Nat) (hk : k + 1 < F.length) : (F[k]'(by omega)).t < F[k + 1].t := by
  have m0 := h.mem _ (List.getElem_mem (by omega : k < F.length))
  have m1 := h.mem _ (List.getElem_mem hk)
  have hmem : F[k]'(by omega) ∈ F.take (k + 1) := by
    rw [List.take_succ_eq_append_getElem (by omega : k < F.length)]
    exact List.mem_append_right _ (List.mem_singleton.2 rfl)
  rcases Int.lt_trichotomy (F[k]'(by omega)).t F[k + 1].t with h1 | h1 | h1
  · exact h1
  · have := hE.t _ m0.1 _ m1.1 h1
    rw [this] at hmem
    exact absurd hmem (h.new (k + 1) hk)
  · have h2 := h.low k (by omega) _ m1.1 m1.2 h1
    have h3 : F[k + 1] ∈ F.take (k + 1) := by
      rw [List.take_succ_eq_append_getElem (by omega : k < F.length)]
      exact List.mem_append_left _ h2
    exact absurd h3 (h.new (k + 1) hk)
/-- Two such rows: the shorter one is a beginning of the longer one. -/
theorem Chain.take_eq {E F G : List QE} {s : Int} (hE : Good E) (hF : Chain E s F) (hG : Chain E s G) : ∀ k, k ≤ F.length → k ≤ G.length → F.take k = G.take k := by
  intro k
  induction k with
  | zero => intro _ _; simp
  | succ k ih =>
    intro h1 h2
    have e := ih (by omega) (by omega)
    have hf : k < F.length := by omega
    have hg : k < G.length := by omega
    rw [List.take_succ_eq_append_getElem hf, List.take_succ_eq_append_getElem hg, e]
    have m0 := hF.mem _ (List.getElem_mem hf)
    have m1 := hG.mem _ (List.getElem_mem hg)
    congr 1
    have : F[k] = G[k] := by
      rcases Int.lt_trichotomy F[k].t G[k].t with h | h | h
      · have := hG.low k hg _ m0.1 m0.2 h
        rw [← e] at this
        exact absurd this (hF.new k hf)
      · exact hE.t _ m0.1 _ m1.1 h
      · have := hF.low k hf _ m1.1 m1.2 h
        rw [e] at this
        exact absurd this (hG.new k hg)
    rw [this]
/-- Through all steps. -/
theorem run_end {l : List QE} {had : List Int} {P : List QE → Prop} (hP : P []) (hS : ∀ out e, P out → nextS l (had ++ ids out) = some e → P (out ++ [e])) : P (allS l had) ∧ nextS l (had ++ ids (allS l had)) = none := by
  have key : ∀ m out, l.length - out.length = m → Run l had out → P out → P (allS l had) ∧ nextS l (had ++ ids (allS l had)) = none := by
    intro m
    induction m with
    | zero =>
      intro out hm hR hO
      cases hn : nextS l (had ++ ids out) with
      | none => rw [← hR.stop hn]; exact ⟨hO, hn⟩
      | some e =>
        have := (hR.step hn).2
        omega
    | succ m ih =>
      intro out hm hR hO
      cases hn : nextS l (had ++ ids out) with
      | none => rw [← hR.stop hn]; exact ⟨hO, hn⟩
      | some e => exact ih (out ++ [e]) (by simp; omega) (hR.step hn).1 (hS out e hO hn)
  exact key _ [] rfl (Run.start l had) hP
theorem mem_ids {os : List QE} {i : Int} (h : i ∈ ids os) : ∃ y ∈ os, y.id = i := by
  obtain ⟨y, hy, e⟩ := List.mem_map.1 h
  exact ⟨y, hy, e⟩
theorem ids_mem {os : List QE} {y : QE} (h : y ∈ os) : y.id ∈ ids os := List.mem_map.2 ⟨y, h, rfl⟩
/-- Of some of them: what comes of a symbol. -/
structure Came (E os : List QE) : Prop where
  mem : ∀ x ∈ os, x ∈ E
  chain : ∀ s, Chain E s (os.filter fun x => x.sym == s)
theorem came {E l : List QE} (hE : Good E) (hl : ∀ x ∈ l, x ∈ E) : Came E (allS l []) := by
  refine (run_end (l := l) (had := []) (P := Came E) ⟨by simp, fun s => Chain.nil E s⟩ (fun out e h hn => ?_)).1
  rw [List.nil_append] at hn
  obtain ⟨h1, h2⟩ := up_some hn
  have he : e ∈ E := hl e (dd_mem e h1)
  simp only [rdy, Bool.and_eq_true, Bool.not_eq_true'] at h2
  obtain ⟨⟨_, hnot⟩, hbad⟩ := h2
  have hnew : e ∉ out := fun hm => by
    have := ids_mem hm
    rw [← Bool.not_eq_true, List.contains_iff_mem] at hnot
    exact hnot this
  refine ⟨fun x hx => ?_, fun s => ?_⟩
  · rcases List.mem_append.1 hx with hx | hx
    · exact h.mem x hx
    · rw [List.mem_singleton.1 hx]; exact he
  · rw [List.filter_append]
    by_cases hs : e.sym = s
    · have hf : [e].filter (fun x => x.sym == s) = [e] := by simp [hs]
      rw [hf]
      refine (h.chain s).snoc he hs (fun z hz hzs hzt => ?_) (fun hm => hnew (List.mem_filter.1 hm).1)
      have hc := hE.low e he z hz (hzs.trans hs.symm) hzt
      have hb := (List.any_eq_false.1 hbad) _ hc
      rw [Bool.not_eq_true] at hb
      unfold bad at hb
      cases hf : byS l z.er.c.id with
      | none => rw [hf] at hb; cases hb
      | some x =>
        rw [hf] at hb
        have hx1 : x ∈ l := List.mem_of_find?_eq_some hf
        have hx2 : x.id = z.id := by
          have := List.find?_some hf
          simpa [isId] using this
        have hxz := hE.id x (hl x hx1) z hz hx2
        subst hxz
        simp only [Bool.or_eq_false_iff, Bool.and_eq_false_iff, decide_eq_false_iff_not, Bool.not_eq_false'] at hb
        rcases hb.2 with h3 | h3
        · exact absurd (Int.le_of_lt hzt) h3
        · rw [List.contains_iff_mem] at h3
          obtain ⟨y, hy, hye⟩ := mem_ids h3
          have := hE.id y (h.mem y hy) x hz hye
          subst this
          exact List.mem_filter.2 ⟨hy, by simpa using hzs⟩
    · have hf : [e].filter (fun x => x.sym == s) = [] := by simp [hs]
      rw [hf, List.append_nil]
      exact h.chain s
theorem up_none {l : List QE} {had : List Int} {X : List QE} (h : upS l had X = none) : ∀ e ∈ X, rdy l had e = false := by
  have key : upS l had X = none → ∀ e ∈ X, rdy l had e = false := by
    refine snoc_ind (p := fun X => upS l had X = none → ∀ e ∈ X, rdy l had e = false) (by simp) (fun X x ih h e he => ?_) X
    rw [up_snoc, stepB] at h
    split at h
    · cases h
    · rename_i hc
      rcases List.mem_append.1 he with he | he
      · exact ih h e he
      · rw [List.mem_singleton.1 he]
        rw [h] at hc
        simpa [less] using hc
  exact key h
theorem dd_all {E : List QE} (hE : Good E) {e : QE} (he : e ∈ E) : e ∈ dd E := by
  have h1 : E.any (isId e.id) = true := List.any_eq_true.2 ⟨e, he, isId_self e⟩
  rw [← dd_any] at h1
  obtain ⟨y, hy, hy2⟩ := List.any_eq_true.1 h1
  have := hE.id y (dd_mem y hy) e he (by simpa [isId] using hy2)
  rwa [← this]
theorem min_of {L : List QE} (h : L ≠ []) : ∃ e ∈ L, ∀ x ∈ L, e.t ≤ x.t := by
  induction L with
  | nil => exact absurd rfl h
  | cons a L ih =>
    by_cases hL : L = []
    · subst hL
      exact ⟨a, by simp, fun x hx => by rw [List.mem_singleton.1 hx]; exact Int.le_refl _⟩
    · obtain ⟨e, he, hm⟩ := ih hL
      by_cases hle : a.t ≤ e.t
      · refine ⟨a, by simp, fun x hx => ?_⟩
        rcases List.mem_cons.1 hx with rfl | hx
        · exact Int.le_refl _
        · exact Int.le_trans hle (hm x hx)
      · refine ⟨e, by simp [he], fun x hx => ?_⟩
        rcases List.mem_cons.1 hx with rfl | hx
        · omega
        · exact hm x hx
/-- All come. -/
theorem all_come {E : List QE} (hE : Good E) : ∀ x ∈ E, x ∈ allS E [] := by
  have hC := came hE (l := E) (fun x h => h)
  have hend := (run_end (l := E) (had := []) (P := fun _ => True) trivial (fun _ _ _ _ => trivial)).2
  rw [List.nil_append] at hend
  have hno := up_none hend
  obtain ⟨os, hos⟩ : ∃ os, allS E [] = os := ⟨_, rfl⟩
  rw [hos] at hC hno ⊢
  intro x hx
  by_cases hall : x ∈ os
  · exact hall
  · exfalso
    obtain ⟨e, he, hmin⟩ := min_of (L := E.filter fun y => !((ids os).contains y.id)) (by
      intro h0
      have : x ∈ E.filter fun y => !((ids os).contains y.id) := List.mem_filter.2 ⟨hx, by
        rw [Bool.not_eq_true', ← Bool.not_eq_true, List.contains_iff_mem]
        intro hm
        obtain ⟨y, hy, hye⟩ := mem_ids hm
        have := hE.id y (hC.mem y hy) x hx hye
        rw [this] at hy
        exact hall hy⟩
      rw [h0] at this
      simp at this)
    obtain ⟨he1, he2⟩ := List.mem_filter.1 he
    have hr := hno e (dd_all hE he1)
    unfold rdy at hr
    rw [hE.dn e he1, he2, Bool.true_and, Bool.true_and, Bool.not_eq_false', List.any_eq_true] at hr
    obtain ⟨c, hc, hb⟩ := hr
    obtain ⟨hne, y, hy, rfl⟩ := hE.ps e he1 c hc
    unfold bad at hb
    cases hf : byS E y.er.c.id with
    | none =>
      have : E.any (isId y.id) = true := List.any_eq_true.2 ⟨y, hy, isId_self y⟩
      rw [any_find] at this
      unfold byS at hf
      rw [hf] at this
      cases this
    | some z =>
      rw [hf] at hb
      have hz1 : z ∈ E := List.mem_of_find?_eq_some hf
      have hz2 : z.id = y.id := by
        have := List.find?_some hf
        simpa [isId] using this
      have hzy := hE.id z hz1 y hy hz2
      subst hzy
      replace hb : (!z.dn || (decide (z.t ≤ e.t) && !((ids os).contains z.id))) = true := hb
      rw [hE.dn z hz1, Bool.not_true, Bool.false_or, Bool.and_eq_true, decide_eq_true_eq] at hb
      obtain ⟨hle, hnc⟩ := hb
      have hge := hmin z (List.mem_filter.2 ⟨hz1, hnc⟩)
      have := hE.t z hz1 e he1 (Int.le_antisymm hle hge)
      exact hne (by rw [this])
theorem waits_none {E : List QE} (hE : Good E) : waitsS E [] = [] := by
  unfold waitsS waitS
  have : (dd E).filter (fun e => e.dn && !(([] ++ ids (allS E [])).contains e.id)) = [] := by
    rw [List.filter_eq_nil_iff]
    intro e he
    have h1 := all_come hE e (dd_mem e he)
    have h2 : ([] ++ ids (allS E [])).contains e.id = true := by
      rw [List.nil_append, List.contains_iff_mem]; exact ids_mem h1
    rw [h2]
    simp
  rw [this]
  rfl
theorem nodup_le {A B : List QE} : ∀ (_ : ∀ (k : Nat) (hk : k < A.length), A[k] ∉ A.take k) (_ : ∀ x ∈ A, x ∈ B), A.length ≤ B.length := by
  revert B
  refine snoc_ind (p := fun A => ∀ {B : List QE}, (∀ (k : Nat) (hk : k < A.length), A[k] ∉ A.take k) → (∀ x ∈ A, x ∈ B) → A.length ≤ B.length) (fun _ _ => by simp) (fun A a ih B hn hs => ?_) A
  have ha : a ∈ B := hs a (by simp)
  obtain ⟨B1, B2, rfl⟩ := List.append_of_mem ha
  have hna : a ∉ A := by
    have := hn A.length (by simp)
    simpa using this
  have h1 := ih (B := B1 ++ B2) (fun k hk => by
    have := hn k (by simp; omega)
    rw [List.getElem_append_left hk, List.take_append_of_le_length (by omega)] at this
    exact this) (fun x hx => by
    have h2 := hs x (by simp [hx])
    rcases List.mem_append.1 h2 with h2 | h2
    · exact List.mem_append_left _ h2
    · rcases List.mem_cons.1 h2 with rfl | h2
      · exact absurd hx hna
      · exact List.mem_append_right _ h2)
  simp only [List.length_append, List.length_cons, List.length_nil] at h1 ⊢
  omega
/-- They come once. -/
structure Once (os : List QE) : Prop where
  new : ∀ (k : Nat) (hk : k < os.length), os[k] ∉ os.take k
theorem once (l : List QE) : Once (allS l []) := by
  refine (run_end (l := l) (had := []) (P := Once) ⟨fun k hk => by simp at hk⟩ (fun out e h hn => ⟨fun k hk => ?_⟩)).1
  rw [List.nil_append] at hn
  obtain ⟨_, h2⟩ := next_some hn
  have hnew : e ∉ out := fun hm => by
    have := ids_mem hm
    rw [← Bool.not_eq_true, List.contains_iff_mem] at h2
    exact h2 this
  by_cases hlt : k < out.length
  · rw [List.getElem_append_left hlt, List.take_append_of_le_length (by omega)]
    exact h.new k hlt
  · have hk' : k = out.length := by simp at hk; omega
    subst hk'
    rw [List.getElem_append_right (Nat.le_refl _), List.take_append_of_le_length (Nat.le_refl _), List.take_length]
    simpa using hnew
theorem all_length {E : List QE} (hE : Good E) (hn : ∀ (k : Nat) (hk : k < E.length), E[k] ∉ E.take k) : (allS E []).length = E.length := by
  refine Nat.le_antisymm (all_len E []) ?_
  exact nodup_le hn (all_come hE)
/-- Of a symbol. -/
def ofSym (s : Int) (os : List QE) : List QE := os.filter fun x => x.sym == s
theorem few_take {E l : List QE} (hE : Good E) (hl : ∀ x ∈ l, x ∈ E) (s : Int) : (ofSym s (allS l [])).length ≤ (ofSym s (allS E [])).length ∧ (ofSym s (allS E [])).take (ofSym s (allS l [])).length = ofSym s (allS l []) := by
  have c1 := (came hE (l := E) (fun x h => h)).chain s
  have c2 := (came hE hl).chain s
  have hle : (ofSym s (allS l [])).length ≤ (ofSym s (allS E [])).length := nodup_le c2.new (fun x hx => by
    have := c2.mem x hx
    exact List.mem_filter.2 ⟨all_come hE x this.1, by simpa using this.2⟩)
  refine ⟨hle, ?_⟩
  have := Chain.take_eq hE c1 c2 (ofSym s (allS l [])).length hle (Nat.le_refl _)
  unfold ofSym at this ⊢
  rw [this, List.take_length]
theorem all_rise {E : List QE} (hE : Good E) (s : Int) (k : Nat) (hk : k + 1 < (ofSym s (allS E [])).length) : ((ofSym s (allS E []))[k]'(by omega)).t < (ofSym s (allS E []))[k + 1].t :=
  Chain.rise hE ((came hE (l := E) (fun x h => h)).chain s) k hk
theorem sym_mem {E : List QE} (hE : Good E) (s : Int) : ∀ x ∈ ofSym s (allS E []), x ∈ E := fun x hx => (((came hE (l := E) (fun x h => h)).chain s).mem x hx).1
end Go.Proofs.Ytebhclgnpnlekaa.Ord
