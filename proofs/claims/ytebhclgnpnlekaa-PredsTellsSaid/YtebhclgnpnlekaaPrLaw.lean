/- The plain law of a set of commands: sorted, its neighbours thinned and their names compared, it is the document's. -/
import Derived.Test.YtebhclgnpnlekaaCpt
namespace Go.Proofs.Ytebhclgnpnlekaa.Pr
open Go.Proofs.Ytebhclgnpnlekaa.B Go.Proofs.Ytebhclgnpnlekaa.Cmd
open Go.Proofs.Ytebhclgnpnlekaa.Rd (zeroCmd)

abbrev ltI (x y : CmdD) : Prop := x.id < y.id
abbrev leI (x y : CmdD) : Prop := x.id ≤ y.id
theorem find_yes {l : List CmdD} {id : Int} {z : CmdD} (h : findS l id = (z, true)) : z ∈ l ∧ z.id = id := by
  unfold findS at h
  cases hf : l.find? (byId id) with
  | none => rw [hf] at h; simp at h
  | some c =>
    rw [hf] at h
    obtain rfl : c = z := by simpa using h
    have := List.find?_some hf
    exact ⟨List.mem_of_find?_eq_some hf, by simpa [byId] using this⟩
theorem find_no {l : List CmdD} {id : Int} (h : (findS l id).2 = false) : ∀ x ∈ l, x.id ≠ id := by
  unfold findS at h
  cases hf : l.find? (byId id) with
  | none =>
    intro x hx e
    have := List.find?_eq_none.1 hf x hx
    simp [byId, e] at this
  | some c => rw [hf] at h; simp at h
theorem mem_ins (c x : CmdD) : ∀ l, x ∈ insL c l ↔ x = c ∨ x ∈ l
  | [] => by simp [insL]
  | y :: l => by
    rw [insL]
    split
    · simp
    · rw [List.mem_cons, mem_ins c x l, List.mem_cons]
      constructor
      · rintro (h | h | h)
        · exact .inr (.inl h)
        · exact .inl h
        · exact .inr (.inr h)
      · rintro (h | h | h)
        · exact .inr (.inl h)
        · exact .inl h
        · exact .inr (.inr h)
theorem ins_rising (c : CmdD) : ∀ l : List CmdD, l.Pairwise ltI → (∀ x ∈ l, x.id ≠ c.id) → (insL c l).Pairwise ltI
  | [], _, _ => by simp [insL]
  | y :: l, h, hn => by
    obtain ⟨h1, h2⟩ := List.pairwise_cons.1 h
    rw [insL]
    split
    · rename_i hc
      refine List.pairwise_cons.2 ⟨fun x hx => ?_, h⟩
      rcases List.mem_cons.1 hx with rfl | hx
      · exact hc
      · have := h1 x hx; show c.id < x.id; have : y.id < x.id := this; omega
    · rename_i hc
      refine List.pairwise_cons.2 ⟨fun x hx => ?_, ins_rising c l h2 fun x hx => hn x (List.mem_cons_of_mem _ hx)⟩
      rcases (mem_ins c x l).1 hx with rfl | hx
      · have := hn y (List.mem_cons_self ..); show y.id < x.id; omega
      · exact h1 x hx
theorem put_rising {o : List CmdD} {c : CmdD} (h : o.Pairwise ltI) : (putL o c).Pairwise ltI := by
  unfold putL
  split
  · exact h
  · rename_i hn
    exact ins_rising c o h (find_no (by simpa using hn))
theorem put_sub {o : List CmdD} {c x : CmdD} (h : x ∈ putL o c) : x = c ∨ x ∈ o := by
  unfold putL at h
  split at h
  · exact .inr h
  · exact (mem_ins c x o).1 h
theorem put_mem {o : List CmdD} {c x : CmdD} (hb : ¬ badL o c = true) : x ∈ putL o c ↔ x = c ∨ x ∈ o := by
  refine ⟨put_sub, fun h => ?_⟩
  unfold putL
  split
  · rename_i hf
    rcases h with rfl | h
    · have hz : findS o x.id = ((findS o x.id).1, true) := by rw [← hf]
      have hm := find_yes hz
      have : (findS o x.id).1 = x := Classical.byContradiction fun hne => hb (by unfold badL; rw [hf]; simp [hne])
      rw [this] at hm
      exact hm.1
    · exact h
  · exact (mem_ins c x o).2 h
theorem foldR_some : ∀ (l o o' : List CmdD), o.Pairwise ltI → foldR o l = some o' → o'.Pairwise ltI ∧ ∀ x, x ∈ o' ↔ x ∈ o ∨ x ∈ l
  | [], o, o', h, e => by
    obtain rfl : o = o' := by simpa [foldR] using e
    exact ⟨h, fun x => by simp⟩
  | c :: l, o, o', h, e => by
    rw [foldR] at e
    split at e
    · cases e
    · rename_i hb
      obtain ⟨h1, h2⟩ := foldR_some l _ o' (put_rising h) e
      refine ⟨h1, fun x => ?_⟩
      rw [h2, put_mem hb, List.mem_cons]
      constructor
      · rintro ((h | h) | h)
        · exact .inr (.inl h)
        · exact .inl h
        · exact .inr (.inr h)
      · rintro (h | h | h)
        · exact .inl (.inr h)
        · exact .inl (.inl h)
        · exact .inr h
theorem foldR_none : ∀ (l o : List CmdD), foldR o l = none → ∃ x y, (x ∈ o ∨ x ∈ l) ∧ (y ∈ o ∨ y ∈ l) ∧ x.id = y.id ∧ x ≠ y
  | [], o, e => by simp [foldR] at e
  | c :: l, o, e => by
    rw [foldR] at e
    split at e
    · rename_i hb
      unfold badL at hb
      rw [Bool.and_eq_true] at hb
      have hz : findS o c.id = ((findS o c.id).1, true) := by rw [← hb.1]
      have hm := find_yes hz
      exact ⟨_, c, .inl hm.1, .inr (List.mem_cons_self ..), hm.2, of_decide_eq_true hb.2⟩
    · obtain ⟨x, y, hx, hy, h1, h2⟩ := foldR_none l _ e
      have key : ∀ z, z ∈ putL o c ∨ z ∈ l → z ∈ o ∨ z ∈ c :: l := fun z hz => by
        rcases hz with h | h
        · rcases put_sub h with rfl | h
          · exact .inr (List.mem_cons_self ..)
          · exact .inl h
        · exact .inr (List.mem_cons_of_mem _ h)
      exact ⟨x, y, key x hx, key y hy, h1, h2⟩
theorem uniq : ∀ (a b : List CmdD), a.Pairwise ltI → b.Pairwise ltI → (∀ x, x ∈ a ↔ x ∈ b) → a = b
  | [], [], _, _, _ => rfl
  | [], y :: b, _, _, h => absurd ((h y).2 (List.mem_cons_self ..)) (by simp)
  | x :: a, [], _, _, h => absurd ((h x).1 (List.mem_cons_self ..)) (by simp)
  | x :: a, y :: b, ha, hb, h => by
    obtain ⟨a1, a2⟩ := List.pairwise_cons.1 ha
    obtain ⟨b1, b2⟩ := List.pairwise_cons.1 hb
    have hxy : x = y := by
      rcases List.mem_cons.1 ((h x).1 (List.mem_cons_self ..)) with e | hx
      · exact e
      · rcases List.mem_cons.1 ((h y).2 (List.mem_cons_self ..)) with e | hy
        · exact e.symm
        · have h1 : y.id < x.id := b1 x hx
          have h2 : x.id < y.id := a1 y hy
          omega
    subst hxy
    congr 1
    refine uniq a b a2 b2 fun z => ⟨fun hz => ?_, fun hz => ?_⟩
    · rcases List.mem_cons.1 ((h z).1 (List.mem_cons_of_mem _ hz)) with rfl | h'
      · have : z.id < z.id := a1 z hz
        omega
      · exact h'
    · rcases List.mem_cons.1 ((h z).2 (List.mem_cons_of_mem _ hz)) with rfl | h'
      · have : z.id < z.id := b1 z hz
        omega
      · exact h'
/-! ### Neighbours thinned -/
theorem ded_sub : ∀ (l : List CmdD) (p : Option CmdD), (dedP p l).Sublist l
  | [], p => List.Sublist.slnil
  | x :: l, p => by
    rw [dedP]
    split
    · exact (ded_sub l _).cons _
    · exact (ded_sub l _).cons_cons _
theorem ded_mem : ∀ (l : List CmdD) (p : Option CmdD) (x : CmdD), x ∈ l → x ∈ dedP p l ∨ p = some x
  | [], p, x, h => by cases h
  | y :: l, p, x, h => by
    rw [dedP]
    split
    · rename_i hp
      rcases List.mem_cons.1 h with rfl | h
      · exact .inr hp
      · rcases ded_mem l (some y) x h with h1 | h1
        · exact .inl h1
        · exact .inr (hp.trans h1)
    · rcases List.mem_cons.1 h with rfl | h
      · exact .inl (List.mem_cons_self ..)
      · rcases ded_mem l (some y) x h with h1 | h1
        · exact .inl (List.mem_cons_of_mem _ h1)
        · cases h1
          exact .inl (List.mem_cons_self ..)
theorem ded_mem_iff (l : List CmdD) (x : CmdD) : x ∈ ded l ↔ x ∈ l := ⟨fun h => (ded_sub l none).subset h, fun h => (ded_mem l none x h).elim id fun h => by cases h⟩
theorem ded_apart : ∀ (l : List CmdD) (p : Option CmdD), (∀ y, (dedP p l)[0]? = some y → p ≠ some y) ∧ ∀ i y z, (dedP p l)[i]? = some y → (dedP p l)[i + 1]? = some z → y ≠ z
  | [], p => ⟨fun y h => by simp [dedP] at h, fun i y z h => by simp [dedP] at h⟩
  | x :: l, p => by
    obtain ⟨h1, h2⟩ := ded_apart l (some x)
    rw [dedP]
    split
    · rename_i hp
      rw [hp]
      exact ⟨h1, h2⟩
    · rename_i hp
      refine ⟨fun y h => ?_, fun i y z hy hz => ?_⟩
      · obtain rfl : x = y := by simpa using h
        exact hp
      · cases i with
        | zero =>
          obtain rfl : x = y := by simpa using hy
          rw [List.getElem?_cons_succ] at hz
          intro e
          exact h1 z hz (by rw [e])
        | succ i =>
          rw [List.getElem?_cons_succ] at hy hz
          exact h2 i y z hy hz
/-- Neighbours that bear one name. -/
theorem twice_none {l s : List CmdD} (hm : ∀ x, x ∈ s ↔ x ∈ l) {i : Nat} (hi : i + 1 < (ded s).length) (h : ((ded s)[i]'(by omega)).id = (ded s)[i + 1].id) : foldR [] l = none := by
  cases hf : foldR [] l with
  | none => rfl
  | some o =>
    exfalso
    obtain ⟨h1, h2⟩ := foldR_some l [] o (by simp) hf
    have hne := (ded_apart s none).2 i _ _ (List.getElem?_eq_getElem (by show i < (ded s).length; omega)) (List.getElem?_eq_getElem hi)
    have hx : (ded s)[i]'(by omega) ∈ o := (h2 _).2 (.inr ((hm _).1 ((ded_mem_iff s _).1 (List.getElem_mem _))))
    have hy : (ded s)[i + 1] ∈ o := (h2 _).2 (.inr ((hm _).1 ((ded_mem_iff s _).1 (List.getElem_mem _))))
    obtain ⟨a, ha, ea⟩ := List.getElem_of_mem hx
    obtain ⟨b, hb, eb⟩ := List.getElem_of_mem hy
    have hp := List.pairwise_iff_getElem.1 h1
    rcases Nat.lt_trichotomy a b with hab | hab | hab
    · have := hp a b ha hb hab
      rw [ea, eb] at this
      have : ((ded s)[i]'(by omega)).id < (ded s)[i + 1].id := this
      omega
    · subst hab
      exact hne (ea.symm.trans eb)
    · have := hp b a hb ha hab
      rw [ea, eb] at this
      have : (ded s)[i + 1].id < ((ded s)[i]'(by omega)).id := this
      omega
/-- No neighbours that bear one name. -/
theorem once_some {l s : List CmdD} (hm : ∀ x, x ∈ s ↔ x ∈ l) (hs : s.Pairwise leI) (h : ∀ i (hi : i + 1 < (ded s).length), ((ded s)[i]'(by omega)).id ≠ (ded s)[i + 1].id) : foldR [] l = some (ded s) := by
  have hle : (ded s).Pairwise leI := hs.sublist (ded_sub s none)
  have hlt : (ded s).Pairwise ltI := by
    rw [List.pairwise_iff_getElem] at hle ⊢
    intro i j hi hj hij
    have h1 : ((ded s)[i]).id ≤ (ded s)[i + 1].id := hle i (i + 1) hi (by omega) (by omega)
    have h2 := h i (by omega)
    show (ded s)[i].id < (ded s)[j].id
    by_cases e : i + 1 = j
    · subst e; omega
    · have h3 : ((ded s)[i + 1]).id ≤ (ded s)[j].id := hle (i + 1) j (by omega) hj (by omega)
      omega
  cases hf : foldR [] l with
  | some o =>
    obtain ⟨h1, h2⟩ := foldR_some l [] o (by simp) hf
    congr 1
    exact uniq _ _ h1 hlt fun x => by rw [h2, ded_mem_iff, hm]; simp
  | none =>
    exfalso
    obtain ⟨x, y, hx, hy, e1, e2⟩ := foldR_none l [] hf
    have hx' : x ∈ ded s := (ded_mem_iff s _).2 ((hm _).2 (by simpa using hx))
    have hy' : y ∈ ded s := (ded_mem_iff s _).2 ((hm _).2 (by simpa using hy))
    obtain ⟨a, ha, ea⟩ := List.getElem_of_mem hx'
    obtain ⟨b, hb, eb⟩ := List.getElem_of_mem hy'
    have hp := List.pairwise_iff_getElem.1 hlt
    rcases Nat.lt_trichotomy a b with hab | hab | hab
    · have := hp a b ha hb hab
      rw [ea, eb] at this
      have : x.id < y.id := this
      omega
    · subst hab
      exact e2 (ea.symm.trans eb)
    · have := hp b a hb ha hab
      rw [ea, eb] at this
      have : y.id < x.id := this
      omega
end Go.Proofs.Ytebhclgnpnlekaa.Pr
