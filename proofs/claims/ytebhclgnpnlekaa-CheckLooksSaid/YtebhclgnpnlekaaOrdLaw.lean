/- What comes in which order, as plain functions of entries and names: what the program tells and what the document tells are one. No condition. -/
import Derived.Test.YtebhclgnpnlekaaEnt2
namespace Go.Proofs.Ytebhclgnpnlekaa.Ord
open Go.Proofs.Ytebhclgnpnlekaa.B Go.Proofs.Ytebhclgnpnlekaa.Cmd Go.Proofs.Ytebhclgnpnlekaa.Ent
/-- An entry, as it lies there, and the commands of its value. -/
structure QE where
  er : ER
  ps : List CmdD
abbrev QE.id (q : QE) : Int := q.er.c.id
abbrev QE.dn (q : QE) : Bool := q.er.dn
abbrev QE.t (q : QE) : Int := q.er.v.t
def isId (i : Int) : QE → Bool := fun q => q.id == i
def byS (l : List QE) (i : Int) : Option QE := l.find? (isId i)
/-- The first of each name. -/
def dd (l : List QE) : List QE := l.foldl (fun acc e => if acc.any (isId e.id) then acc else acc ++ [e]) []
theorem dd_snoc (l : List QE) (e : QE) : dd (l ++ [e]) = if (dd l).any (isId e.id) then dd l else dd l ++ [e] := by simp [dd, List.foldl_append]
theorem snoc_ind {α : Type} {p : List α → Prop} (h0 : p []) (hs : ∀ l x, p l → p (l ++ [x])) (l : List α) : p l := by
  have : ∀ (r : List α), p r.reverse := fun r => by
    induction r with
    | nil => exact h0
    | cons x r ih => rw [List.reverse_cons]; exact hs _ _ ih
  have := this l.reverse
  rwa [List.reverse_reverse] at this
theorem dd_find (i : Int) (l : List QE) : (dd l).find? (isId i) = l.find? (isId i) := by
  refine snoc_ind (p := fun l => (dd l).find? (isId i) = l.find? (isId i)) rfl (fun l x ih => ?_) l
  rw [dd_snoc, List.find?_append]
  split
  · rename_i h
    rw [ih]
    cases hf : l.find? (isId i) with
    | some y => rfl
    | none =>
      rw [hf] at ih
      rw [List.find?_eq_none] at ih
      obtain ⟨y, hy, hy2⟩ := List.any_eq_true.1 h
      have h1 := ih y hy
      have : isId i x = false := by
        simp only [isId, beq_iff_eq, beq_eq_false_iff_ne] at h1 hy2 ⊢
        rw [← hy2]; exact h1
      simp [this]
  · rw [List.find?_append, ih]
theorem any_find {l : List QE} {p : QE → Bool} : l.any p = (l.find? p).isSome := by
  rw [Bool.eq_iff_iff, List.find?_isSome, List.any_eq_true]
theorem dd_any (l : List QE) (i : Int) : (dd l).any (isId i) = l.any (isId i) := by rw [any_find, any_find, dd_find]
theorem dd_mem {l : List QE} : ∀ x ∈ dd l, x ∈ l := by
  refine snoc_ind (p := fun l => ∀ x ∈ dd l, x ∈ l) (by simp [dd]) (fun l y ih x hx => ?_) l
  rw [dd_snoc] at hx
  split at hx
  · exact List.mem_append_left _ (ih x hx)
  · rcases List.mem_append.1 hx with h | h
    · exact List.mem_append_left _ (ih x h)
    · exact List.mem_append_right _ h
theorem dd_len (l : List QE) : (dd l).length ≤ l.length := by
  refine snoc_ind (p := fun l => (dd l).length ≤ l.length) (by simp [dd]) (fun l y ih => ?_) l
  rw [dd_snoc]
  split <;> simp <;> omega
/-- The place of a name's first entry. -/
def findI (l : List QE) (i : Int) : Int := firstOf (isId i) l
theorem isId_self (q : QE) : isId q.id q = true := by simp [isId]
theorem first_iff (l : List QE) (i : Nat) (hi : i < l.length) : findI l l[i].id = (i : Int) ↔ (l.take i).any (isId l[i].id) = false := by
  constructor
  · intro h
    rw [List.any_eq_false]
    intro x hx hx2
    obtain ⟨j, hj, rfl⟩ := List.getElem_of_mem hx
    rw [List.length_take] at hj
    have hx3 : isId l[i].id l[j] = true := by simpa using hx2
    unfold findI firstOf at h
    cases hf : l.findIdx? (isId l[i].id) with
    | none => rw [hf] at h; simp at h
    | some m =>
      rw [hf] at h
      have hm : m = i := by
        have h' : (m : Int) = (i : Int) := h
        omega
      subst hm
      rw [List.findIdx?_eq_some_iff_getElem] at hf
      obtain ⟨_, _, h3⟩ := hf
      exact absurd hx3 (h3 j (by omega))
  · intro h
    exact firstOf_at hi (fun x hx => by simpa using (List.any_eq_false.1 h) x hx) (isId_self _)
theorem dd_take_succ (l : List QE) (i : Nat) (hi : i < l.length) : dd (l.take (i + 1)) = if findI l l[i].id = (i : Int) then dd (l.take i) ++ [l[i]] else dd (l.take i) := by
  rw [List.take_succ_eq_append_getElem hi, dd_snoc, dd_any]
  by_cases h : findI l l[i].id = (i : Int)
  · rw [if_pos h, (first_iff l i hi).1 h]; rfl
  · rw [if_neg h]
    have : (l.take i).any (isId l[i].id) = true := by
      cases hc : (l.take i).any (isId l[i].id)
      · exact absurd ((first_iff l i hi).2 hc) h
      · rfl
    rw [this]; rfl
/-- Does a command stand in the way of an entry? -/
def bad (l : List QE) (had : List Int) (e : QE) (c : CmdD) : Bool := match byS l c.id with
  | none => true
  | some x => !x.dn || (decide (x.t ≤ e.t) && !(had.contains c.id))
def rdy (l : List QE) (had : List Int) (e : QE) : Bool := e.dn && !(had.contains e.id) && !(e.ps.any (bad l had e))
def less (o : Option QE) (e : QE) : Bool := match o with
  | none => true
  | some b => decide (e.t < b.t)
def stepB (l : List QE) (had : List Int) (o : Option QE) (e : QE) : Option QE := if (rdy l had e && less o e) = true then some e else o
def upS (l : List QE) (had : List Int) (X : List QE) : Option QE := X.foldl (stepB l had) none
def nextS (l : List QE) (had : List Int) : Option QE := upS l had (dd l)
theorem up_snoc (l : List QE) (had : List Int) (X : List QE) (e : QE) : upS l had (X ++ [e]) = stepB l had (upS l had X) e := by simp [upS, List.foldl_append]
theorem up_some {l : List QE} {had : List Int} {X : List QE} {e : QE} (h : upS l had X = some e) : e ∈ X ∧ rdy l had e = true := by
  have key : ∀ e, upS l had X = some e → e ∈ X ∧ rdy l had e = true := by
    refine snoc_ind (p := fun X => ∀ e, upS l had X = some e → e ∈ X ∧ rdy l had e = true) (by intro e h; cases h) (fun X x ih e h => ?_) X
    rw [up_snoc, stepB] at h
    split at h
    · rename_i hc
      cases h
      rw [Bool.and_eq_true] at hc
      exact ⟨by simp, hc.1⟩
    · obtain ⟨h1, h2⟩ := ih e h
      exact ⟨List.mem_append_left _ h1, h2⟩
  exact key e h
theorem next_some {l : List QE} {had : List Int} {e : QE} (h : nextS l had = some e) : e ∈ l ∧ had.contains e.id = false := by
  obtain ⟨h1, h2⟩ := up_some h
  refine ⟨dd_mem e h1, ?_⟩
  simp only [rdy, Bool.and_eq_true, Bool.not_eq_true'] at h2
  exact h2.1.2
/-- All that come. -/
def comes (l : List QE) : Nat → List Int → List QE
  | 0, _ => []
  | n + 1, had => match nextS l had with
    | none => []
    | some e => e :: comes l n (had ++ [e.id])
def allS (l : List QE) (had : List Int) : List QE := comes l l.length had
def ids (l : List QE) : List Int := l.map QE.id
def left (l : List QE) (had : List Int) : Nat := (l.filter fun q => !(had.contains q.id)).length
theorem filter_lt {α : Type} {p q : α → Bool} : ∀ {l : List α} {e : α}, (∀ x ∈ l, q x = true → p x = true) → e ∈ l → p e = true → q e = false → (l.filter q).length < (l.filter p).length := by
  have le : ∀ (l : List α), (∀ x ∈ l, q x = true → p x = true) → (l.filter q).length ≤ (l.filter p).length := by
    intro l
    induction l with
    | nil => intro _; simp
    | cons x r ih =>
      intro h
      have := ih (fun y hy => h y (by simp [hy]))
      have hx := h x (by simp)
      cases hq : q x
      · cases hp : p x <;> simp [hq, hp] <;> omega
      · simp [hq, hx hq]; exact this
  intro l
  induction l with
  | nil => intro e _ he; simp at he
  | cons x r ih =>
    intro e h he hp hq
    rcases List.mem_cons.1 he with rfl | he
    · have := le r (fun y hy => h y (by simp [hy]))
      simp only [List.filter_cons, hp, hq, if_true, Bool.false_eq_true, if_false, List.length_cons]
      omega
    · have := ih (fun y hy => h y (by simp [hy])) he hp hq
      have hx := h x (by simp)
      cases hq' : q x
      · cases hp' : p x <;> simp [hq', hp'] <;> omega
      · simp [hq', hx hq']; exact this
theorem left_lt {l : List QE} {had : List Int} {e : QE} (he : e ∈ l) (hn : had.contains e.id = false) : left l (had ++ [e.id]) < left l had := by
  refine filter_lt (fun x _ hx => ?_) he (by rw [hn]; rfl) (by simp)
  simp only [List.contains_append, Bool.not_or, Bool.and_eq_true] at hx
  exact hx.1
/-- How far it has come. -/
structure Run (l : List QE) (had : List Int) (out : List QE) : Prop where
  eq : allS l had = out ++ comes l (l.length - out.length) (had ++ ids out)
  le : out.length + left l (had ++ ids out) ≤ l.length
theorem Run.start (l : List QE) (had : List Int) : Run l had [] :=
  ⟨by simp [allS, ids], by simp only [List.length_nil, ids, List.map_nil, List.append_nil, Nat.zero_add]; exact List.length_filter_le _ _⟩
theorem Run.step {l : List QE} {had : List Int} {out : List QE} {e : QE} (h : Run l had out) (hn : nextS l (had ++ ids out) = some e) : Run l had (out ++ [e]) ∧ out.length < l.length := by
  obtain ⟨h1, h2⟩ := next_some hn
  have h3 := left_lt h1 h2
  have h4 := h.le
  have hlt : out.length < l.length := by omega
  have hi : ids (out ++ [e]) = ids out ++ [e.id] := by simp [ids]
  refine ⟨⟨?_, ?_⟩, hlt⟩
  · rw [h.eq]
    obtain ⟨m, hm⟩ : ∃ m, l.length - out.length = m + 1 := ⟨l.length - out.length - 1, by omega⟩
    have hm' : l.length - (out ++ [e]).length = m := by simp; omega
    rw [hm, hm', hi, comes, hn]
    simp
  · rw [hi]
    simp only [List.length_append, List.length_singleton]
    rw [List.append_assoc] at h3
    omega
theorem Run.stop {l : List QE} {had : List Int} {out : List QE} (h : Run l had out) (hn : nextS l (had ++ ids out) = none) : out = allS l had := by
  rw [h.eq]
  cases hm : l.length - out.length with
  | zero => simp [comes]
  | succ m => simp [comes, hn]
theorem all_len (l : List QE) (had : List Int) : (allS l had).length ≤ l.length := by
  have key : ∀ n h, (comes l n h).length ≤ n := by
    intro n
    induction n with
    | zero => intro h; simp [comes]
    | succ n ih =>
      intro h
      rw [comes]
      split
      · simp
      · rename_i e _
        have := ih (h ++ [e.id])
        simp; omega
  exact key _ _
/-- Those that can't. -/
def waitS (l : List QE) (h : List Int) (X : List QE) : List Int := ids (X.filter fun e => e.dn && !(h.contains e.id))
theorem wait_snoc (l : List QE) (h : List Int) (X : List QE) (e : QE) : waitS l h (X ++ [e]) = if (e.dn && !(h.contains e.id)) = true then waitS l h X ++ [e.id] else waitS l h X := by
  unfold waitS ids
  rw [List.filter_append, List.filter_cons]
  split <;> simp
def waitsS (l : List QE) (had : List Int) : List Int := waitS l (had ++ ids (allS l had)) (dd l)
theorem wait_len (l : List QE) (h : List Int) (X : List QE) : (waitS l h X).length ≤ X.length := by
  unfold waitS ids
  rw [List.length_map]
  exact List.length_filter_le _ _
/-- The document's round over places. -/
def At (l : List QE) (o : Option QE) (j : Int) : Prop := (o = none ∧ j = -1) ∨ ∃ i : Nat, ∃ h : i < l.length, o = some l[i] ∧ j = (i : Int)
theorem up_take_succ (l : List QE) (had : List Int) (i : Nat) (hi : i < l.length) : upS l had (dd (l.take (i + 1))) = if findI l l[i].id = (i : Int) then stepB l had (upS l had (dd (l.take i))) l[i] else upS l had (dd (l.take i)) := by
  rw [dd_take_succ l i hi]
  split
  · rw [up_snoc]
  · rfl
theorem wait_take_succ (l : List QE) (h : List Int) (i : Nat) (hi : i < l.length) : waitS l h (dd (l.take (i + 1))) = if (l[i].dn && !(h.contains l[i].id) && (findI l l[i].id == (i : Int))) = true then waitS l h (dd (l.take i)) ++ [l[i].id] else waitS l h (dd (l.take i)) := by
  rw [dd_take_succ l i hi]
  by_cases hf : findI l l[i].id = (i : Int)
  · rw [if_pos hf, wait_snoc]
    simp [hf]
  · rw [if_neg hf]
    have : (findI l l[i].id == (i : Int)) = false := by simpa using hf
    rw [this]; simp
/-- Counts of names. -/
def counts (had : List Int) : Int → Option Value := fun i => if had.count i = 0 then none else some (.int .i64 (had.count i))
theorem counts_get (had : List Int) (i : Int) : (counts had i).getD (.int .i64 0) = .int .i64 (had.count i) := by
  unfold counts
  split
  · rename_i h; rw [h]; rfl
  · rfl
theorem counts_add (had : List Int) (i : Int) : (fun j => if j = i then some (Value.int .i64 ((had.count i : Nat) + 1 : Int)) else counts had j) = counts (had ++ [i]) := by
  funext j
  unfold counts
  rw [List.count_append, List.count_singleton]
  by_cases h : j = i
  · subst h
    rw [if_pos rfl, if_neg (by simp)]
    simp
  · rw [if_neg h]
    have : (i == j) = false := by simpa using fun e => h e.symm
    simp [this]
theorem count_pos (had : List Int) (i : Int) : decide ((0 : Int) < (had.count i : Nat)) = had.contains i := by
  rw [Bool.eq_iff_iff, decide_eq_true_eq, List.contains_iff_mem, ← List.count_pos_iff]
  omega
theorem count_zero (had : List Int) (i : Int) : decide (((had.count i : Nat) : Int) = 0) = !(had.contains i) := by
  rw [← count_pos, Bool.eq_iff_iff, decide_eq_true_eq, Bool.not_eq_true', decide_eq_false_iff_not]; omega
/-- Entries by names. -/
def entries (l : List QE) : Int → Option Value := fun i => (byS l i).map fun q => .agg q.er.cells
theorem entries_add {l : List QE} {e : QE} (h : (byS l e.id).isSome = false) : (fun j => if j = e.id then some (Value.agg e.er.cells) else entries l j) = entries (l ++ [e]) := by
  funext j
  unfold entries byS
  rw [List.find?_append]
  by_cases hj : j = e.id
  · subst hj
    rw [if_pos rfl]
    unfold byS at h
    cases hf : l.find? (isId e.id) with
    | some x => rw [hf] at h; cases h
    | none => simp [isId_self]
  · rw [if_neg hj]
    have : isId j e = false := by simpa [isId] using fun he => hj he.symm
    cases hf : l.find? (isId j) <;> simp [this]
theorem entries_same {l : List QE} {e : QE} (h : (byS l e.id).isSome = true) : entries l = entries (l ++ [e]) := by
  funext j
  unfold entries byS
  rw [List.find?_append]
  cases hf : l.find? (isId j) with
  | some x => rfl
  | none =>
    have : isId j e = false := by
      cases hc : isId j e
      · rfl
      · have hj : e.id = j := by simpa [isId] using hc
        subst hj
        unfold byS at h
        rw [hf] at h
        cases h
    simp [this]
theorem dd_has (l : List QE) (e : QE) : dd (l ++ [e]) = if (byS l e.id).isSome = true then dd l else dd l ++ [e] := by
  rw [dd_snoc, dd_any, any_find]; rfl
end Go.Proofs.Ytebhclgnpnlekaa.Ord
