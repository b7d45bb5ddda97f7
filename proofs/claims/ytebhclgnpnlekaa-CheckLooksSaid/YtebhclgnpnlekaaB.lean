/- Base words for the claims of a seat, by hand: how Lean data is read in memory (Rep), what opening an argument gives, and how a law's row follows from its walk. No condition. -/
import Derived.Test.YtebhclgnpnlekaaProg
import Derived.WalkKit
import Derived.ProofKit
import Derived.OpenShut
import Derived.ShutString
import Derived.ChangeOld
import Derived.Below
import Derived.SizedLaws
import Derived.Carry
import Derived.Deep.Draws
import Derived.Deep.LoopGhost
import Derived.Deep.QuietTactic
import Derived.BigQuiet
import Derived.Laws.AppendOwn
import Derived.Laws.OwnMore
import Derived.Laws.MakeOwn
namespace Go.Proofs.Ytebhclgnpnlekaa.B
open Go.RowKit

/-- A fact that the walk's simp does not look into. -/
structure Hold (p : Prop) : Prop where mk :: (out : p)

/-! ### Frames -/
/-- Nothing that was there has turned but in blocks of M. -/
structure Fr (M : Nat → Prop) (w w' : World) : Prop where
  os : w'.os = w.os
  tape : w'.tape = w.tape
  output : w'.output = w.output
  size : w.heap.size ≤ w'.heap.size
  block : ∀ k, k < w.heap.size → ¬ M k → w'.heap[k]? = w.heap[k]?

def nob : Nat → Prop := fun _ => False

theorem Fr.refl (M : Nat → Prop) (w : World) : Fr M w w := ⟨rfl, rfl, rfl, Nat.le_refl _, fun _ _ _ => rfl⟩
theorem Fr.trans {M M' : Nat → Prop} {a b c : World} (h : Fr M a b) (k : Fr M' b c) (hm : ∀ i, i < a.heap.size → M' i → M i) : Fr M a c :=
  ⟨k.os.trans h.os, k.tape.trans h.tape, k.output.trans h.output, Nat.le_trans h.size k.size,
   fun i hi hn => (k.block i (Nat.lt_of_lt_of_le hi h.size) (fun hmi => hn (hm i hi hmi))).trans (h.block i hi hn)⟩
theorem Fr.mono {M M' : Nat → Prop} {a b : World} (h : Fr M a b) (hm : ∀ i, i < a.heap.size → M i → M' i) : Fr M' a b :=
  ⟨h.os, h.tape, h.output, h.size, fun i hi hn => h.block i hi (fun hmi => hn (hm i hi hmi))⟩
theorem Fr.below {a b : World} (h : Fr nob a b) : Below a.heap.size a b := ⟨h.os, h.tape, h.output, h.size, fun i hi => h.block i hi (fun h => h)⟩
theorem Fr.of_below {a b : World} (M : Nat → Prop) (h : Below a.heap.size a b) : Fr M a b := ⟨h.os, h.tape, h.output, h.size, fun i hi _ => h.block i hi⟩
theorem Fr.drewN {M : Nat → Prop} {a w : World} (h : Fr M a w) (n : Nat) : Fr M a (w.drewN n) := ⟨h.os, h.tape, h.output, h.size, h.block⟩
theorem Fr.drew {M : Nat → Prop} {a w : World} (h : Fr M a w) : Fr M a w.drew := ⟨h.os, h.tape, h.output, h.size, h.block⟩
theorem Fr.alloc {M : Nat → Prop} {a w : World} (h : Fr M a w) (o : Obj) : Fr M a (w.alloc o) :=
  ⟨h.os, h.tape, h.output, Nat.le_trans h.size (by simp), fun i hi hn => (Below.heap_alloc w o i (Nat.lt_of_lt_of_le hi h.size)).trans (h.block i hi hn)⟩
theorem Fr.setCell {M : Nat → Prop} {a w : World} (h : Fr M a w) {p : Addr} (hp : M p.block ∨ a.heap.size ≤ p.block) (u : Value) : Fr M a (w.setCell p u) :=
  ⟨h.os, h.tape, h.output, by simpa [World.setCell] using h.size, fun i hi hn => (Below.heap_setCell w p u i (by
    rintro rfl
    rcases hp with hp | hp
    · exact hn hp
    · omega)).trans (h.block i hi hn)⟩
theorem Fr.grown {M : Nat → Prop} {a w w' : World} {row : Option Nat} (h : Fr M a w) (hg : w.grownBy w' row) (hr : ∀ k, row = some k → M k ∨ a.heap.size ≤ k) : Fr M a w' :=
  ⟨hg.os.trans h.os, hg.tape.trans h.tape, hg.output.trans h.output, Nat.le_trans h.size hg.size,
   fun i hi hn => (hg.block i (Nat.lt_of_lt_of_le hi h.size) (fun e => by
     rcases hr i e.symm with h1 | h1
     · exact hn h1
     · omega)).trans (h.block i hi hn)⟩
theorem Fr.cell {M : Nat → Prop} {w w' : World} (h : Fr M w w') {p : Addr} (hp : p.block < w.heap.size) (hm : ¬ M p.block) : w'.cell? p = w.cell? p := World.cell?_of_block (w := w) (h.block _ hp hm)
theorem Fr.frozen {M : Nat → Prop} {w w' : World} (h : Fr M w w') {p : Addr} (hp : p.block < w.heap.size) (hm : ¬ M p.block) : w'.frozen? p = w.frozen? p := World.frozen?_of_block (w := w) (h.block _ hp hm)

theorem below_drewN (w : World) (n : Nat) : Below w.heap.size w (w.drewN n) := ⟨rfl, rfl, rfl, Nat.le_refl _, fun _ _ => rfl⟩

/-! ### Reading -/
/-- A way to read Lean data in cells, through blocks that I allows. -/
structure Rep (α : Type) where
  sz : Nat
  K : (Nat → Prop) → World → α → List Value → Prop
  len : ∀ {I w x cs}, K I w x cs → cs.length = sz
  one : ∀ {I w x cs}, K I w x cs → ∀ u ∈ cs, u.oneCell' = true
  move : ∀ {I J : Nat → Prop} {w w1 : World} {x cs}, (∀ k, I k → k < w.heap.size → J k ∧ w1.heap[k]? = w.heap[k]?) → K I w x cs → K J w1 x cs

namespace Rep
def int (k : IntKind) : Rep Int where
  sz := 1
  K _ _ x cs := cs = [.int k x] ∧ (Lit.int k x).wf = true
  len h := by rw [h.1]; rfl
  one h := by rw [h.1]; intro u hu; rw [List.mem_singleton.1 hu]; rfl
  move _ h := h
def bool : Rep Bool where
  sz := 1
  K _ _ x cs := cs = [.bool x]
  len h := by rw [h]; rfl
  one h := by rw [h]; intro u hu; rw [List.mem_singleton.1 hu]; rfl
  move _ h := h
def str : Rep ByteArray where
  sz := 1
  K _ _ x cs := cs = [.string x] ∧ x.size ≤ maxLen
  len h := by rw [h.1]; rfl
  one h := by rw [h.1]; intro u hu; rw [List.mem_singleton.1 hu]; rfl
  move _ h := h
def unit : Rep Unit where
  sz := 0
  K _ _ _ cs := cs = []
  len h := by rw [h]; rfl
  one h := by rw [h]; intro u hu; cases hu
  move _ h := h
def prod {α β : Type} (a : Rep α) (b : Rep β) : Rep (α × β) where
  sz := a.sz + b.sz
  K I w x cs := ∃ c d, cs = c ++ d ∧ a.K I w x.1 c ∧ b.K I w x.2 d
  len h := by obtain ⟨c, d, rfl, hc, hd⟩ := h; rw [List.length_append, a.len hc, b.len hd]
  one h := by
    obtain ⟨c, d, rfl, hc, hd⟩ := h
    intro u hu
    rcases List.mem_append.1 hu with h | h
    · exact a.one hc u h
    · exact b.one hd u h
  move hm h := by obtain ⟨c, d, e, hc, hd⟩ := h; exact ⟨c, d, e, a.move hm hc, b.move hm hd⟩
/-- The same cells, read as another type. -/
def via {α β : Type} (a : Rep α) (to : β → α) : Rep β where
  sz := a.sz
  K I w x cs := a.K I w (to x) cs
  len h := a.len h
  one h := a.one h
  move hm h := a.move hm h

/-- Elements that are read from an address on. -/
def Row {α : Type} (d : Rep α) (I : Nat → Prop) (w : World) (A : Option Addr) (xs : List α) : Prop :=
  xs.length ≤ maxLen ∧ (0 < xs.length → ∃ ad, A = some ad ∧ I ad.block ∧ ad.block < w.heap.size ∧
    ∀ i x, xs[i]? = some x → ∃ cs, d.K I w x cs ∧ ∀ j u, cs[j]? = some u → w.cell? (ad.add (i * d.sz + j)) = some u)

theorem add_block (a : Addr) (n : Nat) : (a.add n).block = a.block := by unfold Addr.add; split <;> rfl

theorem Row.move {α : Type} {d : Rep α} {I J : Nat → Prop} {w w1 : World} {A : Option Addr} {xs : List α} (hm : ∀ k, I k → k < w.heap.size → J k ∧ w1.heap[k]? = w.heap[k]?) (h : Row d I w A xs) : Row d J w1 A xs := by
  refine ⟨h.1, fun h0 => ?_⟩
  obtain ⟨ad, e, hi, hlt, hc⟩ := h.2 h0
  have hb := hm _ hi hlt
  refine ⟨ad, e, hb.1, ?_, fun i x hx => ?_⟩
  · have h1 : w.heap[ad.block]? = some (w.heap[ad.block]) := Array.getElem?_eq_getElem hlt
    rw [← hb.2] at h1
    exact (Array.getElem?_eq_some_iff.1 h1).1
  · obtain ⟨cs, hk, hcs⟩ := hc i x hx
    exact ⟨cs, d.move hm hk, fun j u hu => (World.cell?_of_block (by rw [add_block]; exact hb.2)).trans (hcs j u hu)⟩

def slice {α : Type} (d : Rep α) : Rep (List α) where
  sz := 1
  K I w xs cs := ∃ A c, cs = [.slice A xs.length c] ∧ xs.length ≤ c ∧ (A = none → c = 0) ∧ Row d I w A xs
  len h := by obtain ⟨A, c, rfl, _⟩ := h; rfl
  one h := by obtain ⟨A, c, rfl, _⟩ := h; intro u hu; rw [List.mem_singleton.1 hu]; rfl
  move hm h := by obtain ⟨A, c, e, hl, hn, hr⟩ := h; exact ⟨A, c, e, hl, hn, hr.move hm⟩

theorem Row.drew {α : Type} {d : Rep α} {I : Nat → Prop} {w : World} {A : Option Addr} {xs : List α} (h : Row d I w A xs) : Row d I w.drew A xs := Row.move (w := w) (w1 := w.drew) (fun _ hk _ => ⟨hk, rfl⟩) h
theorem Row.drewN {α : Type} {d : Rep α} {I : Nat → Prop} {w : World} {A : Option Addr} {xs : List α} (h : Row d I w A xs) (n : Nat) : Row d I (w.drewN n) A xs := Row.move (w := w) (w1 := w.drewN n) (fun _ hk _ => ⟨hk, rfl⟩) h
theorem Row.below {α : Type} {d : Rep α} {I : Nat → Prop} {w w1 : World} {A : Option Addr} {xs : List α} (h : Row d I w A xs) (hb : Below w.heap.size w w1) : Row d I w1 A xs := h.move fun k hk hlt => ⟨hk, hb.block k hlt⟩
theorem Row.nil {α : Type} (d : Rep α) (I : Nat → Prop) (w : World) (A : Option Addr) : Row d I w A [] := ⟨by simp, fun h => absurd h (by simp)⟩
theorem Row.len_le {α : Type} {d : Rep α} {I : Nat → Prop} {w : World} {A : Option Addr} {xs : List α} (h : Row d I w A xs) : xs.length ≤ 9223372036854775807 := by have := h.1; simp only [maxLen] at this; omega
/-- The element at a place. -/
theorem Row.at {α : Type} {d : Rep α} {I : Nat → Prop} {w : World} {A : Option Addr} {xs : List α} (h : Row d I w A xs) (i : Nat) (hi : i < xs.length) :
    ∃ ad cs, A = some ad ∧ I ad.block ∧ ad.block < w.heap.size ∧ d.K I w (xs[i]) cs ∧ ∀ j u, cs[j]? = some u → w.cell? (ad.add (i * d.sz + j)) = some u := by
  obtain ⟨ad, e, hI, hlt, hc⟩ := h.2 (by omega)
  obtain ⟨cs, hk, hcs⟩ := hc i xs[i] (List.getElem?_eq_getElem hi)
  exact ⟨ad, cs, e, hI, hlt, hk, hcs⟩
theorem Row.take {α : Type} {d : Rep α} {I : Nat → Prop} {w : World} {A : Option Addr} {xs : List α} (h : Row d I w A xs) (n : Nat) : Row d I w A (xs.take n) := by
  refine ⟨Nat.le_trans (by rw [List.length_take]; omega) h.1, fun h0 => ?_⟩
  obtain ⟨ad, e, hI, hlt, hc⟩ := h.2 (by rw [List.length_take] at h0; omega)
  exact ⟨ad, e, hI, hlt, fun i x hx => hc i x (by rw [List.getElem?_take] at hx; split at hx <;> simp_all)⟩
theorem Row.drop {α : Type} {d : Rep α} {I : Nat → Prop} {w : World} {ad : Addr} {xs : List α} (h : Row d I w (some ad) xs) (n : Nat) : Row d I w (some (ad.add (n * d.sz))) (xs.drop n) := by
  refine ⟨Nat.le_trans (by rw [List.length_drop]; omega) h.1, fun h0 => ?_⟩
  obtain ⟨ad', e, hI, hlt, hc⟩ := h.2 (by rw [List.length_drop] at h0; omega)
  cases e
  refine ⟨_, rfl, by rw [add_block]; exact hI, by rw [add_block]; exact hlt, fun i x hx => ?_⟩
  rw [List.getElem?_drop] at hx
  obtain ⟨cs, hk, hcs⟩ := hc _ x hx
  refine ⟨cs, hk, fun j u hu => ?_⟩
  have := hcs j u hu
  have e : (ad.add (n * d.sz)).add (i * d.sz + j) = ad.add ((n + i) * d.sz + j) := by
    have : (n + i) * d.sz + j = n * d.sz + (i * d.sz + j) := by rw [Nat.add_mul]; omega
    rw [this]
    generalize n * d.sz = p
    generalize i * d.sz + j = q
    unfold Addr.add
    by_cases hp : p = 0 <;> by_cases hq : q = 0 <;> simp [hp, hq, Nat.add_assoc]
  rw [e]; exact this

/-! ### Opening an argument -/
/-- Whatever reads as a datum of this type reads as this data. -/
def Opens {α : Type} (P : Program) (d : Rep α) (t : TypeId) : Prop :=
  P.cellsOf t = d.sz ∧ ∀ (H : Type) (enc : TypeId × Value → H) (W : World) (fuel : Nat) (cs : List Value) (x : DataW H × List MemPlace),
    DataW.trod enc P W 0 (fun _ => true) true fuel t cs = some x → ∃ a, d.K (fun _ => True) W a cs

theorem opens_int {P : Program} {t : TypeId} {k : IntKind} (ht : P.underlying t = some (.int k)) (hc : P.cellsOf t = 1) : Opens P (int k) t := by
  refine ⟨hc, fun H enc W fuel cs x h => ?_⟩
  obtain ⟨n, rfl, _, hw⟩ := DataW.trod_int ht h
  exact ⟨n, rfl, hw⟩
theorem opens_bool {P : Program} {t : TypeId} (ht : P.underlying t = some .bool) (hc : P.cellsOf t = 1) : Opens P bool t := by
  refine ⟨hc, fun H enc W fuel cs x h => ?_⟩
  obtain ⟨n, rfl, _⟩ := DataW.trod_bool ht h
  exact ⟨n, rfl⟩
theorem opens_str {P : Program} {t : TypeId} (ht : P.underlying t = some .string) (hc : P.cellsOf t = 1) : Opens P str t := by
  refine ⟨hc, fun H enc W fuel cs x h => ?_⟩
  obtain ⟨s, rfl, _, hs⟩ := DataW.trod_string ht h
  exact ⟨s, rfl, hs⟩
theorem mapM_some {α β : Type} {f : α → Option β} : ∀ {l : List α} {r : List β}, l.mapM f = some r → r.length = l.length ∧ ∀ (i : Nat) (x : α), l[i]? = some x → ∃ y, f x = some y ∧ r[i]? = some y := by
  intro l
  induction l with
  | nil => intro r h; simp at h; subst h; exact ⟨rfl, fun i x hx => by simp at hx⟩
  | cons a l ih =>
    intro r h
    rw [List.mapM_cons] at h
    cases hf : f a with
    | none => simp [hf] at h
    | some y =>
      cases hl : l.mapM f with
      | none => simp [hf, hl] at h
      | some ys =>
        simp [hf, hl] at h
        subst h
        obtain ⟨h1, h2⟩ := ih hl
        refine ⟨by simp [h1], fun i x hx => ?_⟩
        cases i with
        | zero => simp at hx; subst hx; exact ⟨y, hf, rfl⟩
        | succ i => simpa using h2 i x (by simpa using hx)
theorem cells_some {w : World} {a : Addr} {n : Nat} {cs : List Value} (h : w.cells? 0 a n = some cs) : cs.length = n ∧ ∀ j u, cs[j]? = some u → w.cell? (a.add j) = some u := by
  unfold World.cells? at h
  rw [if_pos (Nat.zero_le _)] at h
  obtain ⟨h1, h2⟩ := mapM_some h
  refine ⟨by simpa using h1, fun j u hu => ?_⟩
  have hj : j < n := by have := (List.getElem?_eq_some_iff.1 hu).1; rw [h1] at this; simpa using this
  obtain ⟨y, hy, hr⟩ := h2 j j (by simp [hj])
  rw [hu] at hr
  cases hr
  exact hy
theorem add_add (a : Addr) (p q : Nat) : (a.add p).add q = a.add (p + q) := by
  unfold Addr.add
  by_cases hp : p = 0 <;> by_cases hq : q = 0 <;> simp [hp, hq, Nat.add_assoc]
theorem choose_list {α : Type} {n : Nat} {Q : Nat → α → Prop} (h : ∀ i, i < n → ∃ a, Q i a) : ∃ l : List α, l.length = n ∧ ∀ i a, l[i]? = some a → Q i a := by
  induction n with
  | zero => exact ⟨[], rfl, fun i a h => by simp at h⟩
  | succ n ih =>
    obtain ⟨l, hl, hq⟩ := ih (fun i hi => h i (by omega))
    obtain ⟨a, ha⟩ := h n (by omega)
    refine ⟨l ++ [a], by simp [hl], fun i b hb => ?_⟩
    rw [List.getElem?_append] at hb
    split at hb
    · exact hq i b hb
    · rename_i hlt
      have hi : i = n := by
        have := (List.getElem?_eq_some_iff.1 hb).1
        simp at this; omega
      subst hi
      simp [hl] at hb
      subst hb
      exact ha
theorem opens_slice {α : Type} {P : Program} {t e : TypeId} {d : Rep α} (ht : P.underlying t = some (.slice e)) (hc : P.cellsOf t = 1) (hs : 0 < d.sz) (hd : Opens P d e) : Opens P (slice d) t := by
  refine ⟨hc, fun H enc W fuel cs x h => ?_⟩
  rcases DataW.trod_slice ht h with ⟨rfl, _⟩ | ⟨a, len, cap, elems, rest, m, _, rfl, _, _, hlc, hcm, hlen, hel, _⟩
  · exact ⟨[], none, 0, rfl, Nat.zero_le _, fun _ => rfl, Row.nil _ _ _ _⟩
  · have hq : ∀ i, i < len → ∃ b, ∃ c, d.K (fun _ => True) W b c ∧ ∀ j u, c[j]? = some u → W.cell? (a.add (i * d.sz + j)) = some u := by
      intro i hi
      have hy := hel i hi
      rw [List.getElem?_eq_getElem (by omega)] at hy
      obtain ⟨c, hcells, htrod⟩ := Option.bind_eq_some_iff.1 hy
      obtain ⟨b, hb⟩ := hd.2 H enc W m c _ htrod
      obtain ⟨_, hcc⟩ := cells_some hcells
      refine ⟨b, c, hb, fun j u hu => ?_⟩
      have := hcc j u hu
      rw [add_add, hd.1] at this
      exact this
    obtain ⟨l, hl, hql⟩ := choose_list hq
    refine ⟨l, some a, cap, by rw [hl], by omega, fun h => by simp at h, ⟨by omega, fun h0 => ⟨a, rfl, trivial, ?_, fun i x hx => hql i x hx⟩⟩⟩
    obtain ⟨c, hk, hcc⟩ := hql 0 l[0] (List.getElem?_eq_getElem h0)
    have hcl := d.len hk
    have := hcc 0 c[0] (List.getElem?_eq_getElem (by omega))
    have hlt := World.block_lt_of_cell? W _ this
    rwa [add_block] at hlt
/-- A struct's fields from a place on. -/
def OpensF {α : Type} (P : Program) (d : Rep α) (fs : List Field) (off : Nat) : Prop :=
  ∀ (H : Type) (enc : TypeId × Value → H) (W : World) (m : Nat) (cs : List Value),
    (∀ f, f ∈ fs → ∃ x, DataW.trod enc P W 0 (fun _ => true) true m f.type ((cs.drop f.offset).take (P.cellsOf f.type)) = some x) → cs.length = off + d.sz → ∃ a, d.K (fun _ => True) W a (cs.drop off)
theorem opensF_nil {P : Program} (off : Nat) : OpensF P unit [] off := by
  intro H enc W m cs _ hl
  refine ⟨(), ?_⟩
  show cs.drop off = []
  apply List.drop_eq_nil_of_le
  have : unit.sz = 0 := rfl
  omega
theorem opensF_cons {α β : Type} {P : Program} {a : Rep α} {b : Rep β} {f : Field} {fs : List Field} {off : Nat} (ho : f.offset = off) (ha : Opens P a f.type) (hb : OpensF P b fs (off + a.sz)) : OpensF P (prod a b) (f :: fs) off := by
  intro H enc W m cs h hl
  have hl' : cs.length = off + a.sz + b.sz := by rw [hl]; show off + (a.sz + b.sz) = _; omega
  obtain ⟨x, hx⟩ := h f (List.mem_cons_self ..)
  obtain ⟨ya, hya⟩ := ha.2 H enc W m _ x hx
  obtain ⟨yb, hyb⟩ := hb H enc W m cs (fun g hg => h g (List.mem_cons_of_mem _ hg)) hl'
  refine ⟨(ya, yb), _, _, ?_, hya, hyb⟩
  rw [ho, ha.1]
  rw [show off + a.sz = off + a.sz from rfl, ← List.drop_drop, List.take_append_drop]
theorem opens_struct {α : Type} {P : Program} {t : TypeId} {d : Rep α} {fs : Array Field} (ht : P.underlying t = some (.struct fs)) (hc : P.cellsOf t = d.sz) (hf : OpensF P d fs.toList 0) : Opens P d t := by
  refine ⟨hc, fun H enc W fuel cs x h => ?_⟩
  obtain ⟨xs, m, _, _, hl, hn, hx⟩ := DataW.trod_struct ht h
  obtain ⟨a, ha⟩ := hf H enc W m cs (fun f hf => by
    obtain ⟨i, hi, rfl⟩ := List.getElem_of_mem hf
    have hi' : i < fs.size := by simpa using hi
    have := hx i fs[i] (Array.getElem?_eq_getElem hi')
    rw [List.getElem?_eq_getElem (by omega)] at this
    exact ⟨_, this⟩) (by omega)
  exact ⟨a, by simpa using ha⟩
theorem opens_via {α β : Type} {P : Program} {t : TypeId} {d : Rep α} {to : β → α} (hs : ∀ a, ∃ b, to b = a) (h : Opens P d t) : Opens P (via d to) t := by
  refine ⟨h.1, fun H enc W fuel cs x hx => ?_⟩
  obtain ⟨a, ha⟩ := h.2 H enc W fuel cs x hx
  obtain ⟨b, rfl⟩ := hs a
  exact ⟨b, ha⟩
/-- An array of elements, as a list. -/
def arr {α : Type} (d : Rep α) (n : Nat) : Rep (List α) where
  sz := n * d.sz
  K I w xs cs := xs.length = n ∧ cs.length = n * d.sz ∧ (∀ u ∈ cs, u.oneCell' = true) ∧ ∀ i x, xs[i]? = some x → d.K I w x ((cs.drop (i * d.sz)).take d.sz)
  len h := h.2.1
  one h := h.2.2.1
  move hm h := ⟨h.1, h.2.1, h.2.2.1, fun i x hx => d.move hm (h.2.2.2 i x hx)⟩
theorem opens_arr_int {P : Program} {t e : TypeId} {k : IntKind} {n : Nat} (ht : P.underlying t = some (.array n e)) (hc : P.cellsOf t = n) (he : Opens P (int k) e) : Opens P (arr (int k) n) t := by
  refine ⟨by rw [hc]; show n = n * 1; omega, fun H enc W fuel cs x h => ?_⟩
  obtain ⟨xs, m, _, _, hl, hn, hx⟩ := DataW.trod_array ht h
  have hce : P.cellsOf e = 1 := he.1
  have hq : ∀ i, i < n → ∃ b, (int k).K (fun _ => True) W b ((cs.drop (i * 1)).take 1) := by
    intro i hi
    have := hx i hi
    rw [hce] at this
    obtain ⟨y, hy⟩ : ∃ y, xs[i]? = some y := ⟨xs[i], List.getElem?_eq_getElem (by omega)⟩
    rw [hy] at this
    exact he.2 H enc W m _ _ this
  obtain ⟨l, hl2, hql⟩ := choose_list hq
  refine ⟨l, hl2, by rw [hl, hc]; show n = n * 1; omega, fun u hu => ?_, fun i x hx => hql i x hx⟩
  obtain ⟨i, hi, rfl⟩ := List.getElem_of_mem hu
  obtain ⟨b, hb, _⟩ := hq i (by omega)
  have : cs[i]? = some (.int k b) := by
    have h1 : ((cs.drop (i * 1)).take 1)[0]? = some (.int k b) := by rw [hb]; rfl
    rw [List.getElem?_take, List.getElem?_drop] at h1
    simpa using h1
  rw [List.getElem?_eq_getElem hi] at this
  rw [Option.some.inj this]
  rfl
end Rep

/-! ### The frame of a law's row -/
section
variable {H : Type} {enc : TypeId × Value → H} {P : Program}
theorem trodAll_below (hl : laidOutB P = true) {W W' : World} (hb : Below W.heap.size W W') : ∀ {ts : List TypeId} {vs : List Value} {ds : List (DataW H)} {ps : List MemPlace},
    (∀ t ∈ ts, P.readableRec t = true ∧ t < P.types.size) → (∀ x ∈ ps, x.block < W.heap.size) → DataW.TrodAll enc P W 0 (fun _ => true) true ts vs ds ps →
    DataW.TrodAll enc P W' 0 (fun b => decide (b < W.heap.size)) true ts vs ds ps := by
  intro ts
  induction ts with
  | nil => intro vs ds ps _ _ h; cases vs <;> cases ds <;> simp_all [DataW.TrodAll]
  | cons t ts ih =>
    intro vs ds ps hr hlt h
    cases vs with
    | nil => simp [DataW.TrodAll] at h
    | cons v vs =>
      cases ds with
      | nil => simp [DataW.TrodAll] at h
      | cons d ds =>
        obtain ⟨p, q, h1, h2, rfl⟩ := h
        exact ⟨p, q, Below.trod hl (hr t (List.mem_cons_self ..)).1 (hr t (List.mem_cons_self ..)).2 h1 hb (fun x hx => hlt x (List.mem_append.2 (.inl hx))),
          ih (fun t ht => hr t (List.mem_cons_of_mem _ ht)) (fun x hx => hlt x (List.mem_append.2 (.inr hx))) h2, rfl⟩
end

/-! ### An argument's value, by its type's form -/
section
variable {P : Program} {W : World} {r : Reach} {base : Nat} {t : TypeId} {v : Value}
theorem arg_int {k : IntKind} {a : Int} {I : Nat → Prop} (ht : P.underlying t = some (.int k)) (hv : Value.okWide P W r base t v) (h : (Rep.int k).K I W a v.cells.toList) : v = .int k a ∧ (Lit.int k a).wf = true := by
  obtain ⟨n, rfl⟩ := WideShapes.okWide_int ht hv
  obtain ⟨e, hw⟩ := h
  have e1 : Value.int k n = Value.int k a := by simpa [Value.cells] using e
  exact ⟨e1, hw⟩
theorem arg_slice {α : Type} {d : Rep α} {e : TypeId} {xs : List α} {I : Nat → Prop} (ht : P.underlying t = some (.slice e)) (hv : Value.okWide P W r base t v) (h : (Rep.slice d).K I W xs v.cells.toList) :
    ∃ A c, v = .slice A xs.length c ∧ xs.length ≤ c ∧ (A = none → c = 0) ∧ Rep.Row d I W A xs := by
  obtain ⟨a, len, cap, rfl⟩ := WideShapes.okWide_slice ht hv
  obtain ⟨A, c, e, hl, hn, hr⟩ := h
  have e1 : Value.slice a len cap = Value.slice A xs.length c := by simpa [Value.cells] using e
  exact ⟨A, c, e1, hl, hn, hr⟩
theorem arg_arr {α : Type} {d : Rep α} {e n : Nat} {xs : List α} {I : Nat → Prop} {m : Nat} (ht : P.underlying t = some (.array m e)) (hv : Value.okWide P W r base t v) (h : (Rep.arr d n).K I W xs v.cells.toList) :
    ∃ cs, v = .agg cs ∧ (Rep.arr d n).K I W xs cs.toList := by
  simp only [Value.okWide, ht] at hv
  obtain ⟨cs, rfl, _⟩ := hv
  exact ⟨cs, rfl, h⟩
theorem arg_struct {α : Type} {d : Rep α} {fs : Array Field} {x : α} {I : Nat → Prop} (ht : P.underlying t = some (.struct fs)) (hv : Value.okWide P W r base t v) (h : d.K I W x v.cells.toList) :
    ∃ cs, v = .agg cs ∧ d.K I W x cs.toList := by
  obtain ⟨cs, rfl, _⟩ := WideShapes.okWide_struct ht hv
  exact ⟨cs, rfl, h⟩
end

end Go.Proofs.Ytebhclgnpnlekaa.B
