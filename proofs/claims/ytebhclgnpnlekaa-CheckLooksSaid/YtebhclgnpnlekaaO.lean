/- More base words for the claims of a seat, by hand: rows of a call's own (Own), what append does to them; no condition. -/
import Derived.Test.YtebhclgnpnlekaaB
import Derived.Maps.AppendAt
import Derived.Deep.AppendLies
import Derived.Laws.AppendOwnNone
import Derived.Laws.BytesArg
import Derived.ScopeJumps
import Derived.Laws.IdiomStrings
import Derived.Laws.Strings
namespace Go.Proofs.Ytebhclgnpnlekaa.B
open Go.RowKit

namespace Rep
/-- A row of the call's own, whose elements are read as data. -/
def Own {α : Type} (d : Rep α) (e : TypeId) (base : Nat) (I : Nat → Prop) (w : World) (v : Value) (xs : List α) : Prop :=
  ∃ cells, w.ownsRow base e d.sz v xs.length cells ∧ ∀ i x, xs[i]? = some x → ∃ cs, d.K (fun k => I k ∧ some k ≠ v.ownBlock) w x cs ∧ ∀ j u, cs[j]? = some u → cells[i * d.sz + j]? = some u

section
variable {α : Type} {d : Rep α} {e : TypeId} {base : Nat} {I : Nat → Prop} {w w' : World} {v : Value} {xs : List α}
theorem Own.nil (d : Rep α) (e : TypeId) (base : Nat) (I : Nat → Prop) (w : World) : Own d e base I w (.slice none 0 0) [] :=
  ⟨[], World.ownsRow_nil w base e d.sz, fun i x h => by simp at h⟩
theorem Own.block_lt (h : Own d e base I w v xs) (k : Nat) (hk : v.ownBlock = some k) : base ≤ k ∧ k < w.heap.size := by
  obtain ⟨cells, ho, _⟩ := h
  exact ho.lt k hk
theorem Own.form (h : Own d e base I w v xs) : ∃ A c, v = .slice A xs.length c ∧ xs.length ≤ c := by
  obtain ⟨cells, ho, _⟩ := h
  rcases ho.2 with ⟨rfl, hn⟩ | ⟨g, cap, cur, rfl, _, _, h1, _⟩
  · exact ⟨none, 0, by rw [hn], by omega⟩
  · exact ⟨_, cap, rfl, h1⟩
theorem Own.form_pos (h : Own d e base I w v xs) (hp : 0 < xs.length) : ∃ g c, v = .slice (some ⟨g, 0, none⟩) xs.length c ∧ xs.length ≤ c := by
  obtain ⟨cells, ho, _⟩ := h
  rcases ho.2 with ⟨rfl, hn⟩ | ⟨g, cap, cur, rfl, _, _, h1, _⟩
  · omega
  · exact ⟨_, cap, rfl, h1⟩
theorem Own.cap_nil (h : Own d e base I w v xs) : ∀ A n c, v = .slice A n c → A = none → c = 0 := by
  rintro A n c rfl rfl
  obtain ⟨cells, ho, _⟩ := h
  rcases ho.2 with ⟨h, _⟩ | ⟨g, cap, cur, h, _⟩
  · injection h
  · cases h
/-- What is owned, read. -/
theorem Own.row {A : Option Addr} {n c : Nat} (h : Own d e base I w (.slice A n c) xs) : Row d (fun k => I k ∨ (Value.slice A n c).ownBlock = some k) w A xs := by
  obtain ⟨cells, ho, hx⟩ := h
  refine ⟨?_, fun h0 => ?_⟩
  · rcases ho.2 with ⟨hv, hn⟩ | ⟨g, cap, cur, hv, _, _, h1, h2, _⟩
    · omega
    · omega
  · rcases ho.2 with ⟨hv, hn⟩ | ⟨g, cap, cur, hv, hb, hh, h1, h2, _⟩
    · omega
    · injection hv with e1 e2 e3
      subst e1
      refine ⟨_, rfl, .inr rfl, (Array.getElem?_eq_some_iff.1 hh).1, fun i x hi => ?_⟩
      obtain ⟨cs, hk, hc⟩ := hx i x hi
      refine ⟨cs, d.move (fun k hk hlt => ⟨.inl hk.1, rfl⟩) hk, fun j u hu => ?_⟩
      exact World.ownsRow.cells ho (g := g) (by rfl) _ _ (hc j u hu)
/-- Its own block and what its elements are read through stay: so does it. -/
theorem Own.move {J : Nat → Prop} (h : Own d e base I w v xs) (hv : ∀ k, v.ownBlock = some k → w'.heap[k]? = w.heap[k]?) (hm : ∀ k, I k → some k ≠ v.ownBlock → k < w.heap.size → J k ∧ w'.heap[k]? = w.heap[k]?) : Own d e base J w' v xs := by
  obtain ⟨cells, ho, hx⟩ := h
  refine ⟨cells, ⟨ho.1, ?_⟩, fun i x hi => ?_⟩
  · rcases ho.2 with h | ⟨g, cap, cur, rfl, hb, hh, r⟩
    · exact .inl h
    · exact .inr ⟨g, cap, cur, rfl, hb, (hv g rfl).trans hh, r⟩
  · obtain ⟨cs, hk, hc⟩ := hx i x hi
    exact ⟨cs, d.move (fun k hk hlt => ⟨⟨(hm k hk.1 hk.2 hlt).1, hk.2⟩, (hm k hk.1 hk.2 hlt).2⟩) hk, hc⟩
theorem Own.below (h : Own d e base I w v xs) (hb : Below w.heap.size w w') : Own d e base I w' v xs :=
  h.move (fun k hk => hb.block k (h.block_lt k hk).2) (fun k hi _ hlt => ⟨hi, hb.block k hlt⟩)
theorem Own.alloc (h : Own d e base I w v xs) (o : Obj) : Own d e base I (w.alloc o) v xs := h.below ((Below.refl _ _).alloc (Nat.le_refl _) o)
theorem Own.drewN (h : Own d e base I w v xs) (n : Nat) : Own d e base I (w.drewN n) v xs := h.move (fun _ _ => rfl) (fun _ hi _ _ => ⟨hi, rfl⟩)
theorem Own.drew (h : Own d e base I w v xs) : Own d e base I w.drew v xs := Own.move (w := w) (w' := w.drew) h (fun _ _ => rfl) (fun _ hi _ _ => ⟨hi, rfl⟩)
theorem Own.mono {J : Nat → Prop} (h : Own d e base I w v xs) (hm : ∀ k, I k → some k ≠ v.ownBlock → k < w.heap.size → J k) : Own d e base J w v xs := h.move (fun _ _ => rfl) (fun k hi hn hlt => ⟨hm k hi hn hlt, rfl⟩)
theorem Own.lower {base' : Nat} (h : Own d e base I w v xs) (hb : base' ≤ base) : Own d e base' I w v xs := by
  obtain ⟨cells, ho, hx⟩ := h
  refine ⟨cells, ⟨ho.1, ?_⟩, hx⟩
  rcases ho.2 with h | ⟨g, cap, cur, rfl, hb', r⟩
  · exact .inl h
  · exact .inr ⟨g, cap, cur, rfl, by omega, r⟩
theorem Own.len_le (h : Own d e base I w v xs) : xs.length ≤ 9223372036854775807 := by
  obtain ⟨cells, ho, _⟩ := h
  rcases ho.2 with ⟨_, h⟩ | ⟨g, cap, cur, rfl, _, _, h1, h2, _⟩
  · omega
  · simp only [maxLen] at h2; omega
end

/-- Data that is all in its cells: read nowhere else. -/
def Flat {α : Type} (d : Rep α) : Prop := ∀ {I J : Nat → Prop} {w w1 : World} {x cs}, d.K I w x cs → d.K J w1 x cs
theorem flat_int (k : IntKind) : Flat (int k) := fun h => h
theorem flat_bool : Flat bool := fun h => h
theorem flat_str : Flat str := fun h => h
theorem Own.flat {α : Type} {d : Rep α} {e : TypeId} {base : Nat} {I : Nat → Prop} (J : Nat → Prop) {w : World} {v : Value} {xs : List α} (hf : Flat d) (h : Own d e base I w v xs) : Own d e base J w v xs := by
  obtain ⟨cells, ho, hx⟩ := h
  refine ⟨cells, ho, fun i x hi => ?_⟩
  obtain ⟨cs, hk, hc⟩ := hx i x hi
  exact ⟨cs, hf hk, hc⟩
/-- An empty literal. -/
theorem Own.lit {α : Type} (d : Rep α) (e : TypeId) (base : Nat) (I : Nat → Prop) (w : World) (hb : base ≤ w.heap.size) : Own d e base I (w.alloc (.cells #[] e)) (.slice (some ⟨w.heap.size, 0, none⟩) 0 0) [] :=
  ⟨[], ⟨by simp, .inr ⟨w.heap.size, 0, #[], rfl, hb, by show (w.heap.push _)[w.heap.size]? = _; simp, by simp, by simp [maxLen], by simp, by simp⟩⟩, fun i x h => by simp at h⟩

/-- A row of numbers of one's own, from its cells. -/
theorem own_ints {k : IntKind} {e : TypeId} {base : Nat} {w : World} {v : Value} {xs : List Int} (I : Nat → Prop) (ho : w.ownsRow base e 1 v xs.length (xs.map (Value.int k))) (hw : ∀ x ∈ xs, (Lit.int k x).wf = true) : Own (int k) e base I w v xs := by
  refine ⟨_, ho, fun i x hi => ⟨[.int k x], ⟨rfl, hw x (List.mem_of_getElem? hi)⟩, fun j u hu => ?_⟩⟩
  have hj : j = 0 := by
    have := (List.getElem?_eq_some_iff.1 hu).1
    simpa using this
  subst hj
  have hu' : Value.int k x = u := by simpa using hu
  subst hu'
  show (xs.map (Value.int k))[i * 1 + 0]? = _
  simp [hi]
theorem Own.ints {k : IntKind} {e : TypeId} {base : Nat} {w : World} {v : Value} {xs : List Int} {I : Nat → Prop} (h : Own (int k) e base I w v xs) : w.ownsRow base e 1 v xs.length (xs.map (Value.int k)) ∧ ∀ x ∈ xs, (Lit.int k x).wf = true := by
  obtain ⟨cells, ho, hx⟩ := h
  have hl : cells.length = xs.length := by have := ho.1; simpa [int] using this
  have e1 : cells = xs.map (Value.int k) := by
    refine List.ext_getElem? fun i => ?_
    by_cases hi : i < xs.length
    · obtain ⟨cs, ⟨rfl, _⟩, hc⟩ := hx i xs[i] (List.getElem?_eq_getElem hi)
      have := hc 0 _ rfl
      simp only [int, Nat.mul_one, Nat.add_zero] at this
      rw [this, List.getElem?_map, List.getElem?_eq_getElem hi]; rfl
    · rw [List.getElem?_eq_none (by omega), List.getElem?_eq_none (by simp; omega)]
  refine ⟨by rw [← e1]; exact ho, fun x hx' => ?_⟩
  obtain ⟨i, hi, rfl⟩ := List.getElem_of_mem hx'
  obtain ⟨cs, ⟨_, hw⟩, _⟩ := hx i xs[i] (List.getElem?_eq_getElem hi)
  exact hw
/-- A number stored into a row of one's own. -/
theorem Own.store {k : IntKind} {e : TypeId} {base : Nat} {w : World} {g n c : Nat} {xs : List Int} {I : Nat → Prop} (h : Own (int k) e base I w (.slice (some ⟨g, 0, none⟩) n c) xs) (i : Nat) (x : Int) (hi : i < xs.length) (hx : (Lit.int k x).wf = true) :
    (∃ u, w.cell? ⟨g, i, none⟩ = some u) ∧ w.frozen? ⟨g, i, none⟩ = false ∧ Own (int k) e base I (w.setCell ⟨g, i, none⟩ (.int k x)) (.slice (some ⟨g, 0, none⟩) n c) (xs.set i x) ∧ w.grownBy (w.setCell ⟨g, i, none⟩ (.int k x)) (some g) := by
  obtain ⟨ho, hw⟩ := h.ints
  obtain rfl : n = xs.length := by
    rcases ho.2 with ⟨h, _⟩ | ⟨_, _, _, h, _⟩
    · cases h
    · injection h
  obtain ⟨hs, hg⟩ := ho.stored i (.int k x)
  refine ⟨⟨_, (ho.cellAt i (by omega)).trans (List.getElem?_eq_getElem (by simpa using hi))⟩, ho.frozenAt i, ?_, hg⟩
  have hs' : (w.setCell ⟨g, i, none⟩ (.int k x)).ownsRow base e 1 (.slice (some ⟨g, 0, none⟩) xs.length c) (xs.set i x).length ((xs.set i x).map (Value.int k)) := by
    rw [List.length_set, List.map_set]; exact hs
  have := own_ints I hs' (fun y hy => by
    rcases List.mem_or_eq_of_mem_set hy with h | h
    · exact hw y h
    · rw [h]; exact hx)
  exact this

/-- One element in a box. -/
theorem row_box {α : Type} {d : Rep α} {I : Nat → Prop} {w : World} {x : α} {cs : List Value} (e : TypeId) (h : d.K I w x cs) :
    Row d (fun k => I k ∨ k = w.heap.size) (w.alloc (.cells cs.toArray e)) (some ⟨w.heap.size, 0, none⟩) [x] := by
  refine ⟨by simp [maxLen], fun _ => ⟨_, rfl, .inr rfl, by simp, fun i y hi => ?_⟩⟩
  have hi0 : i = 0 := by
    have := (List.getElem?_eq_some_iff.1 hi).1
    simpa using this
  subst hi0
  have hy : x = y := by simpa using hi
  subst hy
  refine ⟨cs, d.move (fun k hk hlt => ⟨.inl hk, Below.heap_alloc w _ k hlt⟩) h, fun j u hu => ?_⟩
  have e1 : (⟨w.heap.size, 0, none⟩ : Addr).add (0 * d.sz + j) = ⟨w.heap.size, j, none⟩ := by
    unfold Addr.add
    split
    · simp_all
    · simp
  rw [e1]
  have hh : (w.alloc (.cells cs.toArray e)).heap[w.heap.size]? = some (.cells cs.toArray e) := by
    show (w.heap.push _)[w.heap.size]? = _
    simp
  simp only [World.cell?, hh]
  simpa using hu

/-- A literal of numbers, whatever mark its block bears. -/
theorem row_lit {k : IntKind} (w : World) (e : TypeId) (fr : Nat × Nat) (xs : List Int) (hm : xs.length ≤ maxLen) (hw : ∀ x ∈ xs, (Lit.int k x).wf = true) :
    Row (int k) (fun b => b = w.heap.size) (w.alloc (.cells (xs.map (Value.int k)).toArray e fr)) (some ⟨w.heap.size, 0, none⟩) xs := by
  refine ⟨hm, fun h0 => ⟨_, rfl, rfl, by simp, fun i x hi => ⟨[.int k x], ⟨rfl, hw x (List.mem_of_getElem? hi)⟩, fun j u hu => ?_⟩⟩⟩
  have hj : j = 0 := by
    have := (List.getElem?_eq_some_iff.1 hu).1
    simpa using this
  subst hj
  have hu' : Value.int k x = u := by simpa using hu
  subst hu'
  have e1 : (⟨w.heap.size, 0, none⟩ : Addr).add (i * (int k).sz + 0) = ⟨w.heap.size, i, none⟩ := by
    show (⟨w.heap.size, 0, none⟩ : Addr).add (i * 1 + 0) = _
    unfold Addr.add
    split
    · simp_all
    · simp
  rw [e1, World.cell?_alloc_mark]
  simp [hi]
section
variable {P : Program}
theorem row_wf {k : IntKind} {I : Nat → Prop} {w : World} {A : Option Addr} {xs : List Int} (h : Row (int k) I w A xs) : ∀ x ∈ xs, (Lit.int k x).wf = true := by
  intro x hx
  obtain ⟨i, hi, rfl⟩ := List.getElem_of_mem hx
  obtain ⟨_, cs, _, _, _, ⟨_, hw⟩, _⟩ := h.at i hi
  exact hw
/-- A number at a place. -/
theorem Row.get {k : IntKind} {I : Nat → Prop} {w : World} {A : Option Addr} {xs : List Int} (h : Row (int k) I w A xs) (i : Nat) (hi : i < xs.length) :
    ∃ ad x, A = some ad ∧ xs[i]? = some x ∧ w.cell? (ad.add i) = some (.int k x) ∧ (Lit.int k x).wf = true := by
  obtain ⟨ad, cs, e, _, _, ⟨rfl, hw⟩, hc⟩ := h.at i hi
  refine ⟨ad, xs[i], e, List.getElem?_eq_getElem hi, ?_, hw⟩
  have := hc 0 _ rfl
  simpa [int] using this
theorem add_zero (a : Addr) : a.add 0 = a := rfl
/-- Where a cut of a slice begins. -/
def cutAddr (A : Option Addr) (c l size : Nat) : Option Addr := if c = l then A else A.map (·.add (l * size))
theorem Row.cut {α : Type} {d : Rep α} {I : Nat → Prop} {w : World} {A : Option Addr} {xs : List α} (hr : Row d I w A xs) (l h c : Nat) (hh : h ≤ xs.length) (hc : xs.length ≤ c) : Row d I w (cutAddr A c l d.sz) ((xs.take h).drop l) := by
  have nilc : (xs.take h).drop l = [] → Row d I w (cutAddr A c l d.sz) ((xs.take h).drop l) := fun e => by rw [e]; exact Row.nil _ _ _ _
  by_cases e : c = l
  · exact nilc (List.drop_eq_nil_of_le (by rw [List.length_take]; omega))
  · cases A with
    | none =>
      refine nilc ?_
      rcases xs with _ | ⟨x, xs⟩
      · simp
      · obtain ⟨ad, h, _⟩ := hr.2 (by simp)
        cases h
    | some ad =>
      have h1 := (hr.take h).drop l
      simpa [cutAddr, e] using h1
theorem run_cut (t e : TypeId) (kl kh : IntKind) {size : Nat} (ht : P.underlying t = some (.slice e)) (hi : (P.info? e).map (·.size) = some size) (A : Option Addr) (n c : Nat) (l h : Int) (h0 : 0 ≤ l) (h1 : l ≤ h) (h2 : h ≤ c) (W : World) :
    (Instr.slice t (.slice A n c) (some (.int kl l)) (some (.int kh h)) none).run P W = .ok (.slice (cutAddr A c l.toNat size) (h.toNat - l.toNat) (c - l.toNat)) W := by
  have hel : P.elem t = e := by simp [Program.elem, ht]
  have hu : P.underlying t = some (.slice (P.elem t)) := by rw [hel]; exact ht
  obtain ⟨i, hi, hsz⟩ := Option.map_eq_some_iff.1 hi
  rw [run_slice_lh W t A n c hu kl kh l h h0 h1 h2, hel]
  simp [sizeOf, typeInfo, hi, hsz, sliced, Result.andThen, cutAddr]
theorem run_cut_from (t e : TypeId) (kl : IntKind) {size : Nat} (ht : P.underlying t = some (.slice e)) (hi : (P.info? e).map (·.size) = some size) (A : Option Addr) (n c : Nat) (l : Int) (h0 : 0 ≤ l) (h1 : l ≤ n) (W : World) :
    (Instr.slice t (.slice A n c) (some (.int kl l)) none none).run P W = .ok (.slice (cutAddr A c l.toNat size) (n - l.toNat) (c - l.toNat)) W := by
  have hel : P.elem t = e := by simp [Program.elem, ht]
  have hu : P.underlying t = some (.slice (P.elem t)) := by rw [hel]; exact ht
  obtain ⟨i, hi, hsz⟩ := Option.map_eq_some_iff.1 hi
  rw [run_slice_l W t A n c hu kl l h0 h1, hel]
  simp [sizeOf, typeInfo, hi, hsz, sliced, Result.andThen, cutAddr]
theorem run_cut_to (t e : TypeId) (kh : IntKind) {size : Nat} (ht : P.underlying t = some (.slice e)) (hi : (P.info? e).map (·.size) = some size) (A : Option Addr) (n c : Nat) (h : Int) (h0 : 0 ≤ h) (h1 : h ≤ c) (W : World) :
    (Instr.slice t (.slice A n c) none (some (.int kh h)) none).run P W = .ok (.slice A h.toNat c) W := by
  have hel : P.elem t = e := by simp [Program.elem, ht]
  have hu : P.underlying t = some (.slice (P.elem t)) := by rw [hel]; exact ht
  obtain ⟨i, hi, hsz⟩ := Option.map_eq_some_iff.1 hi
  have ha : (A.map fun x => x.add 0) = A := by cases A <;> simp [Addr.add]
  rw [run_slice_h W t A n c hu kh h h0 h1, hel]
  simp [sizeOf, typeInfo, hi, sliced, Result.andThen, ha]
theorem cutAddr_none {A : Option Addr} {c l size : Nat} (h : cutAddr A c l size = none) : A = none := by
  unfold cutAddr at h; split at h
  · exact h
  · cases A <;> simp_all
/-- Bytes that are read, as a string. -/
theorem row_string {src dst e : TypeId} {I : Nat → Prop} {w : World} {A : Option Addr} {c : Nat} {xs : List Int} (hs : P.underlying src = some (.slice e)) (he : P.underlying e = some (.int .u8)) (hd : P.underlying dst = some .string)
    (h : Row (int .u8) I w A xs) : (Go.convert src dst (.slice A xs.length c)).run P w = .ok (.string (strOfNums xs)) w := by
  rcases xs with _ | ⟨x, xs⟩
  · rcases A with _ | ad
    · exact (run_convert_bytes_nil w src e hs he _ c dst hd).trans (by rfl)
    · have hl : (loadCells ad 0).run P w = .ok ([] : List Value).toArray w := run_loadCells_list (P := P) w ad [] (fun j v hj => by simp at hj)
      show (Go.convert src dst (.slice (some ad) 0 c)).run P w = _
      rw [run_convert_bytes_string w src dst e _ 0 c hs he hd, run_bytesToString w ad 0 c [] hl, foldl_push_bytes]
      rfl
  · obtain ⟨ad, rfl, _, _, hc⟩ := h.2 (by simp)
    have hl : (loadCells ad (x :: xs).length).run P w = .ok ((x :: xs).map (Value.int .u8)).toArray w := by
      have := run_loadCells_list (P := P) w ad ((x :: xs).map (Value.int .u8)) (fun j v hj => by
        rw [List.getElem?_map] at hj
        obtain ⟨y, hy, rfl⟩ := Option.map_eq_some_iff.1 hj
        obtain ⟨cs, ⟨rfl, _⟩, hcs⟩ := hc j y hy
        have := hcs 0 _ rfl
        simpa [int] using this)
      rwa [List.length_map] at this
    rw [run_convert_bytes_string w src dst e _ _ c hs he hd, run_bytesToString w ad _ c (x :: xs) hl, foldl_push_bytes]
    simp [strOfNums, ByteArray.empty, ByteArray.emptyWithCapacity]
    rfl
theorem byte_inj {x y : Int} (hx : (Lit.int .u8 x).wf = true) (hy : (Lit.int .u8 y).wf = true) (h : UInt8.ofNat x.toNat = UInt8.ofNat y.toNat) : x = y := by
  have bx := bounds_u8 hx
  have by' := bounds_u8 hy
  have := congrArg UInt8.toNat h
  simp only [UInt8.toNat_ofNat'] at this
  omega
theorem bytes_inj : ∀ {xs ys : List Int}, (∀ x ∈ xs, (Lit.int .u8 x).wf = true) → (∀ x ∈ ys, (Lit.int .u8 x).wf = true) → xs.map (fun n => UInt8.ofNat n.toNat) = ys.map (fun n => UInt8.ofNat n.toNat) → xs = ys
  | [], [], _, _, _ => rfl
  | [], _ :: _, _, _, h => by simp at h
  | _ :: _, [], _, _, h => by simp at h
  | x :: xs, y :: ys, hx, hy, h => by
    simp only [List.map_cons, List.cons.injEq] at h
    rw [byte_inj (hx x (List.mem_cons_self ..)) (hy y (List.mem_cons_self ..)) h.1, bytes_inj (fun z hz => hx z (List.mem_cons_of_mem _ hz)) (fun z hz => hy z (List.mem_cons_of_mem _ hz)) h.2]
/-- Strings of bytes are the same just if the bytes are. -/
theorem str_eq {xs ys : List Int} (hx : ∀ x ∈ xs, (Lit.int .u8 x).wf = true) (hy : ∀ x ∈ ys, (Lit.int .u8 x).wf = true) : ((strOfNums xs).toList == (strOfNums ys).toList) = decide (xs = ys) := by
  rw [ByteArray.toList_eq, ByteArray.toList_eq, strOfNums_data, strOfNums_data]
  by_cases h : xs = ys
  · subst h; simp
  · rw [decide_eq_false h, beq_eq_false_iff_ne]
    exact fun he => h (bytes_inj hx hy he)
/-- append's run: a row that is read, behind a row of one's own. -/
theorem run_append {α : Type} {d : Rep α} (t ty e : TypeId) (z : Value) (bytes : Nat) (ht : P.underlying t = some (.slice e)) (hinfo : (P.info? e).map (fun i => (i.zero, i.size, i.bytes)) = some (some z, d.sz, bytes)) (hzs : z.cells.size = d.sz) (hsz : 0 < d.sz) (hb0 : 0 < bytes)
    {W : World} {base : Nat} {I J : Nat → Prop} {v : Value} {xs ys : List α} {A : Option Addr} {c : Nat} (HO : Own d e base I W v xs) (HR : Row d J W A ys) (hJ : ∀ k, J k → k < W.heap.size → some k ≠ v.ownBlock)
    (hnil : A = none → c = 0) (hbase : base ≤ W.heap.size) (hl : (xs.length + ys.length) * bytes ≤ 140737488355328) :
    ∃ v1 w1, (Builtin.append_ #[t, t] ty #[v, .slice A ys.length c]).run P W = .ok v1 w1 ∧ Own d e base (fun k => I k ∨ J k) w1 v1 (xs ++ ys) ∧ W.grownBy w1 v.ownBlock ∧ (v1.ownBlock = v.ownBlock ∨ v1.ownBlock = some W.heap.size) := by
  obtain ⟨i0, hi, hzz⟩ := Option.map_eq_some_iff.1 hinfo
  simp only [Prod.mk.injEq] at hzz
  obtain ⟨hz0, hz1, hz2⟩ := hzz
  obtain ⟨cells, ho, hx⟩ := HO
  have hlen : xs.length + ys.length ≤ 140737488355328 := Nat.le_trans (Nat.le_mul_of_pos_right _ hb0) hl
  have hblk := ho.lt
  rcases A with _ | ad
  · have h0 : ys = [] := by
      rcases ys with _ | ⟨y, ys⟩
      · rfl
      · obtain ⟨ad, h, _⟩ := HR.2 (by simp)
        cases h
    subst h0
    obtain rfl := hnil rfl
    refine ⟨v, W, ?_, ⟨cells, by simpa using ho, fun i x hi => ?_⟩, World.grownBy.refl W _, .inl rfl⟩
    · exact run_append_owned_none (P := P) (w := W) base t ty e i0 d.sz ht hi v xs.length cells ho
    · obtain ⟨cs, hk, hc⟩ := hx i x (by simpa using hi)
      exact ⟨cs, d.move (fun k hk _ => ⟨⟨.inl hk.1, hk.2⟩, rfl⟩) hk, hc⟩
  · have hq : ∃ news : List Value, news.length = ys.length * d.sz ∧ (∀ j u, news[j]? = some u → W.cell? (ad.add j) = some u) ∧ (∀ u ∈ news, u.oneCell' = true) ∧
        ∀ i x, ys[i]? = some x → ∃ cs, d.K (fun k => J k ∧ some k ≠ v.ownBlock) W x cs ∧ ∀ j u, cs[j]? = some u → news[i * d.sz + j]? = some u := by
      have key : ∀ (ys : List α) (o : Nat), (∀ i x, ys[i]? = some x → ∃ cs, d.K (fun k => J k ∧ some k ≠ v.ownBlock) W x cs ∧ ∀ j u, cs[j]? = some u → W.cell? (ad.add ((o + i) * d.sz + j)) = some u) →
          ∃ news : List Value, news.length = ys.length * d.sz ∧ (∀ j u, news[j]? = some u → W.cell? (ad.add (o * d.sz + j)) = some u) ∧ (∀ u ∈ news, u.oneCell' = true) ∧
            ∀ i x, ys[i]? = some x → ∃ cs, d.K (fun k => J k ∧ some k ≠ v.ownBlock) W x cs ∧ ∀ j u, cs[j]? = some u → news[i * d.sz + j]? = some u := by
        intro ys
        induction ys with
        | nil => intro o _; exact ⟨[], by simp, fun j u h => by simp at h, fun u h => by simp at h, fun i x h => by simp at h⟩
        | cons y ys ih =>
          intro o h
          obtain ⟨cs, hk, hc⟩ := h 0 y rfl
          obtain ⟨news, n1, n2, n3, n4⟩ := ih (o + 1) (fun i x hi => by
            obtain ⟨cs, hk, hc⟩ := h (i + 1) x (by simpa using hi)
            exact ⟨cs, hk, fun j u hu => by have := hc j u hu; rwa [show o + (i + 1) = o + 1 + i by omega] at this⟩)
          have hcl := d.len hk
          refine ⟨cs ++ news, by rw [List.length_append, hcl, n1, List.length_cons, Nat.add_mul]; omega, fun j u hu => ?_, fun u hu => ?_, fun i x hi => ?_⟩
          · rw [List.getElem?_append] at hu
            split at hu
            · have := hc j u hu
              simpa using this
            · rename_i hge
              have := n2 _ u hu
              rw [hcl] at this hge
              rwa [show (o + 1) * d.sz + (j - d.sz) = o * d.sz + j by rw [Nat.add_mul]; omega] at this
          · rcases List.mem_append.1 hu with h | h
            · exact d.one hk u h
            · exact n3 u h
          · cases i with
            | zero =>
              have hy : y = x := by simpa using hi
              subst hy
              refine ⟨cs, hk, fun j u hu => ?_⟩
              have hj := (List.getElem?_eq_some_iff.1 hu).1
              rw [Nat.zero_mul, Nat.zero_add, List.getElem?_append_left hj]
              exact hu
            | succ i =>
              obtain ⟨cs', hk', hc'⟩ := n4 i x (by simpa using hi)
              refine ⟨cs', hk', fun j u hu => ?_⟩
              have := hc' j u hu
              rw [List.getElem?_append_right (by rw [hcl, Nat.add_mul]; omega), hcl]
              rwa [show (i + 1) * d.sz + j - d.sz = i * d.sz + j by rw [Nat.add_mul]; omega]
      rcases ys with _ | ⟨y, ys⟩
      · exact ⟨[], by simp, fun j u h => by simp at h, fun u h => by simp at h, fun i x h => by simp at h⟩
      · obtain ⟨ad', e', _, _, hc⟩ := HR.2 (by simp)
        cases e'
        obtain ⟨news, n1, n2, n3, n4⟩ := key (y :: ys) 0 (fun i x hi => by
          obtain ⟨cs, hk, hcs⟩ := hc i x hi
          exact ⟨cs, d.move (fun k hk hlt => ⟨⟨hk, hJ k hk hlt⟩, rfl⟩) hk, by simpa using hcs⟩)
        exact ⟨news, n1, by simpa using n2, n3, n4⟩
    obtain ⟨news, n1, n2, n3, n4⟩ := hq
    obtain ⟨v1, w1, hr, h2, h3, _, h5⟩ := run_append_own_at (P := P) W base t ty e i0 z d.sz bytes ht hi hz0 hz1 hz2 hzs hsz v xs.length cells ho ad ys.length c news n1 n2 n3 (by simp only [maxLen]; omega) hl hbase
    have hmv : ∀ (Q : Nat → Prop) (_ : ∀ k, Q k → I k ∨ J k), ∀ k, (Q k ∧ some k ≠ v.ownBlock) → k < W.heap.size → ((I k ∨ J k) ∧ some k ≠ v1.ownBlock) ∧ w1.heap[k]? = W.heap[k]? := by
      intro Q hQ k hk hlt
      refine ⟨⟨hQ k hk.1, ?_⟩, h3.block k hlt hk.2⟩
      rcases h5 with h5 | h5
      · rw [h5]; exact hk.2
      · rw [h5]; intro he; injection he with he; omega
    refine ⟨v1, w1, hr, ⟨cells ++ news, by rw [List.length_append]; exact h2, fun i x hi => ?_⟩, h3, h5⟩
    have hcl := ho.1
    rw [List.getElem?_append] at hi
    split at hi
    · obtain ⟨cs, hk, hc⟩ := hx i x hi
      refine ⟨cs, d.move (hmv I (fun k h => .inl h)) hk, fun j u hu => ?_⟩
      have := hc j u hu
      rw [List.getElem?_append_left (List.getElem?_eq_some_iff.1 this).1]
      exact this
    · rename_i hge
      obtain ⟨cs, hk, hc⟩ := n4 _ x hi
      refine ⟨cs, d.move (hmv J (fun k h => .inr h)) hk, fun j u hu => ?_⟩
      have := hc j u hu
      have hle : xs.length * d.sz ≤ i * d.sz := Nat.mul_le_mul_right _ (by omega)
      rw [List.getElem?_append_right (by rw [hcl]; omega), hcl]
      rwa [show i * d.sz + j - xs.length * d.sz = (i - xs.length) * d.sz + j by rw [Nat.sub_mul]; omega]

variable {ops : Array Oper} {rest : List Oper} {o : Oper} {a : Act} {Q : Exit → Act → World → Prop}
/-- append as a step of a walk, behind 'at_builtin'. -/
theorem wp_append {α : Type} (d : Rep α) (hgd : o.guard = none) (s x : Operand) (t e : TypeId) (z : Value) (bytes : Nat)
    (ho : o.op = .call { callee := .builtin .append, args := #[s, x], argTypes := #[t, t] })
    (ht : P.underlying t = some (.slice e)) (hinfo : (P.info? e).map (fun i => (i.zero, i.size, i.bytes)) = some (some z, d.sz, bytes)) (hzs : z.cells.size = d.sz) (hsz : 0 < d.sz) (hb0 : 0 < bytes)
    {W : World} (base : Nat) {I J : Nat → Prop} (v : Value) (xs ys : List α) (A : Option Addr) (m c : Nat) (hs : a.eval s = v) (hx : a.eval x = .slice A m c) (hm : m = ys.length)
    (HO : Own d e base I W v xs) (HR : Row d J W A ys) (hJ : ∀ k, J k → k < W.heap.size → some k ≠ v.ownBlock) (hnil : A = none → c = 0) (hbase : base ≤ W.heap.size) (hl : (xs.length + ys.length) * bytes ≤ 140737488355328)
    (h : ∀ v1 w1, Own d e base (fun k => I k ∨ J k) w1 v1 (xs ++ ys) → W.grownBy w1 v.ownBlock → (v1.ownBlock = v.ownBlock ∨ v1.ownBlock = some W.heap.size) → wpList P ops Q rest (a.put o.dst v1) w1) :
    wpList P ops Q (o :: rest) a W := by
  subst hm
  obtain ⟨v1, w1, hr, hown, hg, hat⟩ := run_append t o.type e z bytes ht hinfo hzs hsz hb0 HO HR hJ hnil hbase hl
  refine wpList_plain hgd fun K hK => ?_
  unfold Oper.wp execOp
  simp only [ho, resolve, invoke, builtin, Sem.run_bind, Sem.run_pure, Result.andThen_ok, List.map_toArray, List.map_cons, List.map_nil, hs, hx, hr]
  exact hK _ _ (h v1 w1 hown hg hat)
end
end Rep

/-- A scope with a label that is jumped to: what stands behind the label is walked once. -/
theorem scope_jumps2 {P : Program} {Q : Exit → Act → World → Prop} {a : Act} {w : World} {c rest : Code} (l : Nat) (J : Act → World → Prop) (μ : Act → World → Nat) (hf : findLabel c l = some rest)
    (pass : ∀ a w, J a w → rest.wp P (Exit.jump l (fun a' w' => J a' w' ∧ μ a' w' < μ a w) Q) a w)
    (first : (∀ a w, J a w → rest.wp P (Exit.jump l J Q) a w) → c.wp P (Exit.jump l J Q) a w) : (Code.scope c).wp P Q a w :=
  wp_scope_jumps l J μ hf (first fun a w h => Code.wp_mono (fun e a' w' q => by
    cases e with
    | goto m => exact ⟨q.1, q.2.1⟩
    | _ => exact q) (pass a w h)) pass
/-- The same, of an empty statement behind the label. -/
theorem scope_jumps3 {P : Program} {Q : Exit → Act → World → Prop} {a : Act} {w : World} {c rest : Code} (l : Nat) (J : Act → World → Prop) (μ : Act → World → Nat) (hf : findLabel c l = some (Code.seq Code.skip rest))
    (pass : ∀ a w, J a w → rest.wp P (Exit.jump l (fun a' w' => J a' w' ∧ μ a' w' < μ a w) Q) a w)
    (first : (∀ a w, J a w → rest.wp P (Exit.jump l J Q) a w) → c.wp P (Exit.jump l J Q) a w) : (Code.scope c).wp P Q a w :=
  scope_jumps2 l J μ hf (fun a w h => wp_seq (wp_skip (by simpa [Exit.then] using pass a w h)))
    (fun _ => first fun a w h => Code.wp_mono (fun e a' w' q => by
      cases e with
      | goto m => exact ⟨q.1, q.2.1⟩
      | _ => exact q) (pass a w h))
end Go.Proofs.Ytebhclgnpnlekaa.B
