/- slices.SortStableFunc of commands: swapRange, rotate, symMerge, stable, by their walks, from a world of the sort's to a world of the sort's. No condition. -/
import Derived.Test.YtebhclgnpnlekaaSortLaw
import Derived.Test.YtebhclgnpnlekaaCmd
import Derived.Shelf.SlSortCmp.KitK
import Derived.Sort.WalkB2
import Derived.Sort.WalkB12
import Derived.Deep.LoopGhost
namespace Go.Proofs.Ytebhclgnpnlekaa.Sorts
open Go.RowKit Go.Lib Go.Sort Go.Shelf Go.Proofs.Ytebhclgnpnlekaa.B Go.Proofs.Ytebhclgnpnlekaa.Cmd Go.Proofs.Ytebhclgnpnlekaa.SortLaw

/-- Commands with a name that may be. -/
def RC := {c : CmdD // 0 ≤ c.id ∧ c.id ≤ 4111}
instance : Inhabited RC := ⟨⟨⟨0, 0, 0, 0, 0, 0, 0⟩, by decide⟩⟩
def enc (x : RC) : List Value := x.1.cells
theorem enc_len (x : RC) : (enc x).length = 7 := rfl
theorem enc_one (x : RC) : ∀ v ∈ enc x, v.oneCell' = true := by
  intro v hv
  simp only [enc, CmdD.cells, List.mem_cons, List.not_mem_nil, or_false] at hv
  rcases hv with rfl | rfl | rfl | rfl | rfl | rfl | rfl <;> rfl
def cf (x y : RC) : Int := x.1.id - y.1.id
theorem swo : SWO (ltOf cf) where
  irrefl x := decide_eq_false (by unfold cf; omega)
  trans x y z h1 h2 := decide_eq_true (by have h1 := of_decide_eq_true h1; have h2 := of_decide_eq_true h2; unfold cf at *; omega)
  ntrans x y z h1 h2 := decide_eq_false (by have h1 := of_decide_eq_false h1; have h2 := of_decide_eq_false h2; unfold cf at *; omega)
theorem alloc_two (w : World) (o o' : Obj) : (w.alloc o).alloc o' = grow w (#[o] ++ #[o']) := by rw [alloc_eq_grow, alloc_eq_grow, grow_grow]
abbrev byN : Nat := 91
theorem byName_calls (x y : RC) (w : World) : Calls Try.prog byN #[.agg (enc x).toArray, .agg (enc y).toArray] w fun e w' => e = .returned (.int .i64 (cf x y)) ∧ ∃ os', w' = grow w os' := by
  obtain ⟨⟨i, k, s, t, d, p, q⟩, hx1, hx2⟩ := x
  obtain ⟨⟨i', k', s', t', d', p', q'⟩, hy1, hy2⟩ := y
  dsimp only at hx1 hx2 hy1 hy2
  show Calls Try.prog byN #[.agg #[.int .i64 i, .int .i64 k, .int .i64 s, .int .i64 t, .int .i64 d, .int .i64 p, .int .i64 q], .agg #[.int .i64 i', .int .i64 k', .int .i64 s', .int .i64 t', .int .i64 d', .int .i64 p', .int .i64 q']] w _
  go_enter Try.func91, Try.ntmps91
  go_wp2
  go_ret
  exact ⟨rfl, _, alloc_two w _ _⟩
theorem cmpLays (blk off size : Nat) (w : World) : CmpLays Try.prog byN #[] enc 7 cf blk off size w := fun m os dk _ x y =>
  (byName_calls x y _).mono fun e w' ⟨he, os', hw⟩ => ⟨he, 0, os', by rw [hw]; rfl⟩
theorem eg : ∀ args w, (callFunc byN args).run Try.prog w = .ok (.enter byN args) w := enters_of Try.func91 (by kernel_rfl) rfl
/-! ### The kit's insertion sort, laid at commands -/
def ren : Ren := ⟨fun | 20 => 161 | n => n, fun | 0 => 0 | 3 => 3 | 4 => 4 | 22 => 23 | 24 => 45 | 25 => 139 | n => n, fun n => n⟩
theorem lays : SlLaysF0.n20 Try.prog ren where
  mixed := by kernel_rfl
  f20 := ⟨_, by kernel_rfl, Try.func161⟩
  t0 := Try.underlying0
  a0 := Try.isAgg0
  z0 := Try.sizeOf0
  v0 := Try.zeroValue0
  t3 := Try.underlying3
  a3 := Try.isAgg3
  z3 := Try.sizeOf3
  v3 := Try.zeroValue3
  t4 := Try.underlying4
  a4 := Try.isAgg4
  z4 := Try.sizeOf4
  v4 := Try.zeroValue4
  t22 := Try.underlying23
  a22 := Try.isAgg23
  z22 := Try.sizeOf23
  v22 := Try.zeroValue23
  t25 := Try.underlying139
  a25 := Try.isAgg139
  z25 := Try.sizeOf139
  v25 := Try.zeroValue139
/-- insertionSort, from a world of the sort's to one. -/
theorem ins_calls (blk off cap a b : Nat) (d0 d : Array RC) (w0 w : World) (R : RowK enc 7 w0 blk off d0) (hs : d0.size = d.size) (S : SWK enc 7 w0 blk off d w) (hab : a ≤ b) (hb : b ≤ d.size) (hsz : d.size < 4611686018427387904) :
    Calls Try.prog 161 #[.slice (some ⟨blk, off, none⟩) d.size cap, .int .i64 a, .int .i64 b, .func (.func byN) #[] #[]] w fun e w' =>
      e = .returned (.tuple #[]) ∧ ∃ d', Hold (SWK enc 7 w0 blk off d' w') ∧ Hold (PermIn a b d d' ∧ SortedIn (ltOf cf) a b d') := by
  have hH : HoldsK enc 7 w blk off d := S.holds R.hblk R.hH hs.symm
  have h := AnyQ.insertionSortCmpFunc lays 7 (Try.isAgg45) (Try.sizeOf45) enc enc_len enc_one cf byN #[] blk off cap a b d w eg (cmpLays _ _ _ _) hH (Nat.lt_of_lt_of_le R.hblk S.le) hab hb hsz
  refine Calls.mono h ?_
  rintro e w' ⟨he, n, os, hw⟩
  have hi := insertionSort_holds swo d a b hab hb
  refine ⟨he, _, ⟨?_⟩, ⟨hi⟩⟩
  rw [hw]
  exact S.on R.hblk n _ os hi.1.1
/-- What the walks lean on, of whatever program: so that a command's size stays a letter. -/
structure SL (P : Program) (k : Nat) : Prop where
  mixed : P.follows .mixedOrders = true
  fS : P.funcs[168]? = some Try.f168
  fR : P.funcs[166]? = some Try.f166
  fM : P.funcs[162]? = some Try.f162
  t0 : P.underlying 0 = some (TypeDesc.tuple #[])
  a0 : ∀ w, (isAgg 0).run P w = .ok false w
  z0 : ∀ w, (Go.sizeOf 0).run P w = .ok 1 w
  v0 : ∀ w, (zeroValue 0).run P w = .ok (Value.tuple #[]) w
  t3 : P.underlying 3 = some (TypeDesc.int IntKind.i64)
  a3 : ∀ w, (isAgg 3).run P w = .ok false w
  z3 : ∀ w, (Go.sizeOf 3).run P w = .ok 1 w
  v3 : ∀ w, (zeroValue 3).run P w = .ok (Value.int IntKind.i64 0) w
  t4 : P.underlying 4 = some (TypeDesc.bool)
  a4 : ∀ w, (isAgg 4).run P w = .ok false w
  z4 : ∀ w, (Go.sizeOf 4).run P w = .ok 1 w
  v4 : ∀ w, (zeroValue 4).run P w = .ok (Value.bool false) w
  tu : P.underlying 108 = some (TypeDesc.int IntKind.u64)
  au : ∀ w, (isAgg 108).run P w = .ok false w
  zu : ∀ w, (Go.sizeOf 108).run P w = .ok 1 w
  vu : ∀ w, (zeroValue 108).run P w = .ok (Value.int IntKind.u64 0) w
  ts : P.underlying 23 = some (TypeDesc.slice 45)
  asl : ∀ w, (isAgg 23).run P w = .ok false w
  zs : ∀ w, (Go.sizeOf 23).run P w = .ok 1 w
  vs : ∀ w, (zeroValue 23).run P w = .ok (Value.slice none 0 0) w
  tf : P.underlying 139 = some (TypeDesc.func #[45, 45] #[3] false)
  af : ∀ w, (isAgg 139).run P w = .ok false w
  zf : ∀ w, (Go.sizeOf 139).run P w = .ok 1 w
  vf : ∀ w, (zeroValue 139).run P w = .ok (Value.nilFunc) w
  aE : ∀ w, (isAgg 45).run P w = .ok true w
  zE : ∀ w, (Go.sizeOf 45).run P w = .ok k w
  cmp : ∀ blk off size w, CmpLays P byN #[] enc k cf blk off size w
  eg : ∀ args w, (callFunc byN args).run P w = .ok (.enter byN args) w
theorem sl : SL Try.prog 7 where
  mixed := by kernel_rfl
  fS := Try.func168
  fR := Try.func166
  fM := Try.func162
  t0 := Try.underlying0
  a0 := Try.isAgg0
  z0 := Try.sizeOf0
  v0 := Try.zeroValue0
  t3 := Try.underlying3
  a3 := Try.isAgg3
  z3 := Try.sizeOf3
  v3 := Try.zeroValue3
  t4 := Try.underlying4
  a4 := Try.isAgg4
  z4 := Try.sizeOf4
  v4 := Try.zeroValue4
  tu := Try.underlying108
  au := Try.isAgg108
  zu := Try.sizeOf108
  vu := Try.zeroValue108
  ts := Try.underlying23
  asl := Try.isAgg23
  zs := Try.sizeOf23
  vs := Try.zeroValue23
  tf := Try.underlying139
  af := Try.isAgg139
  zf := Try.sizeOf139
  vf := Try.zeroValue139
  aE := Try.isAgg45
  zE := Try.sizeOf45
  cmp := cmpLays
  eg := eg
end Go.Proofs.Ytebhclgnpnlekaa.Sorts
