/- What is looked for in views, as plain functions: the marks of a view, the least pair of a fault. No condition. -/
import Derived.Test.YtebhclgnpnlekaaOrdLaw
namespace Go.Proofs.Ytebhclgnpnlekaa.Chk
open Go.Proofs.Ytebhclgnpnlekaa.B Go.Proofs.Ytebhclgnpnlekaa.Cmd Go.Proofs.Ytebhclgnpnlekaa.Ent Go.Proofs.Ytebhclgnpnlekaa.Ord
/-- A view: entries, and names that are delivered. -/
abbrev ViewD := List QE × List Int
/-- The first entries of names that are done. -/
def own (L : List QE) : List QE := (dd L).filter fun e => e.dn
theorem own_take_succ (L : List QE) (i : Nat) (hi : i < L.length) : own (L.take (i + 1)) = if (L[i].dn && (findI L L[i].id == (i : Int))) = true then own (L.take i) ++ [L[i]] else own (L.take i) := by
  unfold own
  rw [dd_take_succ L i hi]
  by_cases hf : findI L L[i].id = (i : Int)
  · rw [if_pos hf, List.filter_append]
    cases hd : L[i].dn <;> simp [hd, hf]
  · rw [if_neg hf]
    have : (findI L L[i].id == (i : Int)) = false := by simpa using hf
    rw [this]; simp
theorem own_snoc (L : List QE) (e : QE) : own (L ++ [e]) = if (!(L.any (isId e.id)) && e.dn) = true then own L ++ [e] else own L := by
  unfold own
  rw [dd_snoc, dd_any]
  cases h : L.any (isId e.id)
  · simp only [Bool.false_eq_true, if_false, Bool.not_false, Bool.true_and]
    rw [List.filter_append]
    cases hd : e.dn <;> simp [hd]
  · simp
/-- All marks, of all views. -/
def allOwn (l : List ViewD) : List QE := l.flatMap fun v => own v.1
theorem allOwn_snoc (l : List ViewD) (v : ViewD) : allOwn (l ++ [v]) = allOwn l ++ own v.1 := by simp [allOwn]
abbrev Pair := Int × Int
/-- Is a pair less than another one? -/
def lessP (a b : Pair) : Bool := decide (a.1 < b.1) || (decide (a.1 = b.1) && decide (a.2 < b.2))
/-- A pair that comes to what was the least one. -/
def put (o : Option Pair) (p : Option Pair) : Option Pair := match p with
  | none => o
  | some p => match o with
    | none => some p
    | some b => if lessP p b = true then some p else some b
def least (l : List (Option Pair)) : Option Pair := l.foldl put none
def leastFrom (o : Option Pair) (l : List (Option Pair)) : Option Pair := l.foldl put o
theorem leastFrom_snoc (o : Option Pair) (l : List (Option Pair)) (p : Option Pair) : leastFrom o (l ++ [p]) = put (leastFrom o l) p := by simp [leastFrom, List.foldl_append]
theorem leastFrom_append (o : Option Pair) (l m : List (Option Pair)) : leastFrom o (l ++ m) = leastFrom (leastFrom o l) m := by simp [leastFrom, List.foldl_append]
/-- Are two values the same? -/
def sameV (a b : QE) : Bool := decide (a.t = b.t) && decide (a.ps = b.ps)
def apart (a b : QE) : Option Pair := if a.id = b.id ∧ (a.er.c ≠ b.er.c ∨ sameV a b = false) then some (a.id, 0) else none
def twice (a b : QE) : Option Pair := if a.id ≠ b.id ∧ a.t = b.t then some (min a.id b.id, max a.id b.id) else none
def missed (a b : QE) : Option Pair := if a.id ≠ b.id ∧ a.er.c.sym = b.er.c.sym ∧ a.t < b.t ∧ (b.ps.any fun c => c.id == a.id) = false then some (a.id, b.id) else none
def fault (f : Nat) : QE → QE → Option Pair := if f = 1 then apart else if f = 2 then twice else missed
/-- The least pair of a fault. -/
def pairsOf (f : Nat) (l : List QE) : List (Option Pair) := l.flatMap fun a => l.map fun b => fault f a b
def pairs (f : Nat) (l : List QE) : Option Pair := least (pairsOf f l)
/-- What one name that is delivered brings: twice, or unknown; or before one of its symbol with a lesser time. -/
def lateAt (m : List QE) (had : List Int) (id : Int) : List (Option Pair) := match byS m id with
  | none => [some (id, 0)]
  | some a => (if had.contains id = true then some (id, 0) else none) :: m.map fun x => if x.er.c.sym = a.er.c.sym ∧ x.t < a.t ∧ had.contains x.id = false then some (x.id, id) else none
def lateOf (v : ViewD) (k : Nat) : List (Option Pair) := (List.range k).flatMap fun i => lateAt (own v.1) (v.2.take i) (v.2.getD i 0)
theorem lateOf_succ (v : ViewD) (k : Nat) : lateOf v (k + 1) = lateOf v k ++ lateAt (own v.1) (v.2.take k) (v.2.getD k 0) := by simp [lateOf, List.range_succ]
def late (l : List ViewD) : Option Pair := least (l.flatMap fun v => lateOf v v.2.length)
/-- What is told of views. -/
def look (l : List ViewD) : Int × Int × Int := match pairs 1 (allOwn l) with
  | some p => (1, p.1, p.2)
  | none => match pairs 2 (allOwn l) with
    | some p => (2, p.1, p.2)
    | none => match pairs 3 (allOwn l) with
      | some p => (3, p.1, p.2)
      | none => match late l with
        | some p => (4, p.1, p.2)
        | none => (0, 0, 0)
/-- In a view's own, a name stands once. -/
theorem own_once (L : List QE) : ∀ x ∈ own L, ∀ y ∈ own L, x.id = y.id → x = y := by
  have key : ∀ x ∈ dd L, byS L x.id = some x := by
    refine snoc_ind (p := fun L => ∀ x ∈ dd L, byS L x.id = some x) (by simp [dd]) (fun l e ih x hx => ?_) L
    rw [dd_has] at hx
    unfold byS at ih ⊢
    rw [List.find?_append]
    split at hx
    · rw [ih x hx]; rfl
    · rename_i h
      rcases List.mem_append.1 hx with hx | hx
      · rw [ih x hx]; rfl
      · rw [List.mem_singleton.1 hx]
        have hn : l.find? (isId e.id) = none := by
          unfold byS at h
          cases hf : l.find? (isId e.id) with
          | none => rfl
          | some y => rw [hf] at h; exact absurd rfl h
        rw [hn]
        simp [isId_self]
  intro x hx y hy h
  have h1 := key x (List.mem_filter.1 hx).1
  have h2 := key y (List.mem_filter.1 hy).1
  rw [h, h2] at h1
  injection h1 with h1
  exact h1.symm
end Go.Proofs.Ytebhclgnpnlekaa.Chk
