/- package check's finder: put, by its walk. No condition. -/
import Derived.Test.YtebhclgnpnlekaaChkC
namespace Go.Proofs.Ytebhclgnpnlekaa.Chk
open Go.RowKit Go.Proofs.Ytebhclgnpnlekaa.B Go.Proofs.Ytebhclgnpnlekaa.Cmd Go.Proofs.Ytebhclgnpnlekaa.Agg Go.Proofs.Ytebhclgnpnlekaa.Ent Go.Proofs.Ytebhclgnpnlekaa.Ord
def fcells (o : Option Pair) : Array Value := match o with
  | none => #[.int .i64 0, .int .i64 0, .bool false]
  | some p => #[.int .i64 p.1, .int .i64 p.2, .bool true]
/-- The finder's three cells, written one by one. -/
theorem set3 {w : World} {g : Nat} {T : TypeId} {a0 a1 a2 : Value} (h : w.heap[g]? = some (.cells #[a0, a1, a2] T (0, 0))) (x y z : Value) : (((w.setCell ⟨g, 0, none⟩ x).setCell ⟨g, 1, none⟩ y).setCell ⟨g, 2, none⟩ z).heap[g]? = some (.cells #[x, y, z] T (0, 0)) ∧ Fr (fun k => k = g) w (((w.setCell ⟨g, 0, none⟩ x).setCell ⟨g, 1, none⟩ y).setCell ⟨g, 2, none⟩ z) := by
  have e1 := setCell_eq_setRow w g 0 _ T (0, 0) x h
  have h1 : (w.setCell ⟨g, 0, none⟩ x).heap[g]? = some (.cells #[x, a1, a2] T (0, 0)) := by rw [e1]; exact setRow_heap w g _ _ T (0, 0) h
  have e2 := setCell_eq_setRow _ g 1 _ T (0, 0) y h1
  have h2 : ((w.setCell ⟨g, 0, none⟩ x).setCell ⟨g, 1, none⟩ y).heap[g]? = some (.cells #[x, y, a2] T (0, 0)) := by rw [e2]; exact setRow_heap _ g _ _ T (0, 0) h1
  have e3 := setCell_eq_setRow _ g 2 _ T (0, 0) z h2
  refine ⟨by rw [e3]; exact setRow_heap _ g _ _ T (0, 0) h2, ?_⟩
  exact (((Fr.refl (fun k => k = g) w).setCell (p := ⟨g, 0, none⟩) (.inl rfl) x).setCell (p := ⟨g, 1, none⟩) (.inl rfl) y).setCell (p := ⟨g, 2, none⟩) (.inl rfl) z
set_option maxHeartbeats 4000000 in
set_option maxRecDepth 100000 in
theorem put_none (x y : Int) (g : Nat) (w : World) (hg : w.heap[g]? = some (.cells (fcells none) 175 (0, 0))) :
    Calls Try.prog 148 #[.pointer (some ⟨g, 0, none⟩), .int .i64 x, .int .i64 y] w fun r w' => r = .returned (.tuple #[]) ∧ Hold (w'.heap[g]? = some (.cells (fcells (some (x, y))) 175 (0, 0)) ∧ Fr (fun k => k = g) w w') := by
  have hlt : g < w.heap.size := (Array.getElem?_eq_some_iff.1 hg).1
  obtain ⟨b, hb⟩ : ∃ b, w.heap.size = b := ⟨_, rfl⟩
  obtain ⟨W, hW⟩ : ∃ W, w.alloc (.cells #[.int .i64 x, .int .i64 y] 173) = W := ⟨_, rfl⟩
  have hB : Bs w W [(b, 173, #[.int .i64 x, .int .i64 y])] := by
    have h1 := (Bs.nil w).alloc #[.int .i64 x, .int .i64 y] 173
    rw [hW] at h1
    simpa [hb] using h1
  have hg2 := (hB.below.block g hlt).trans hg
  have f2 : W.cell? ⟨g, 2, none⟩ = some (.bool false) := cell_heap hg2 2
  have f0 : W.cell? ⟨g, 0, none⟩ = some (.int .i64 0) := cell_heap hg2 0
  have f1 : W.cell? ⟨g, 1, none⟩ = some (.int .i64 0) := cell_heap hg2 1
  go_enter Try.func148, Try.ntmps148
  go_upto_region 1 with (fail)
  have hz : ∀ k, W.frozen? ⟨g, k, none⟩ = false := fun k => by simp [World.frozen?, hg2]
  have b0 : W.cell? ⟨b, 0, none⟩ = some (.int .i64 x) := hB.cell 0 rfl 0
  have b1 : W.cell? ⟨b, 1, none⟩ = some (.int .i64 y) := hB.cell 0 rfl 1
  have HG := Hold.mk hg2
  have HBl := Hold.mk hB.below
  clear hg hg2 hB hW
  go_big_quiet (fail)
  go_wp2
  have hd : (W.drewN nq).heap[g]? = some (.cells (fcells none) 175 (0, 0)) := HG.out
  obtain ⟨s1, s2⟩ := set3 hd (.int .i64 x) (.int .i64 y) (.bool true)
  exact Great.bodyPost_end0 rfl rfl ⟨rfl, ⟨s1, ((Fr.of_below _ HBl.out).trans ((Fr.refl (fun k => k = g) W).drewN nq) (fun _ _ h => h)).trans s2 (fun _ _ h => h)⟩⟩
set_option maxHeartbeats 4000000 in
set_option maxRecDepth 100000 in
theorem put_some (x y p1 p2 : Int) (g : Nat) (w : World) (hg : w.heap[g]? = some (.cells (fcells (some (p1, p2))) 175 (0, 0))) (o : Option Pair) (ho : put (some (p1, p2)) (some (x, y)) = o) :
    Calls Try.prog 148 #[.pointer (some ⟨g, 0, none⟩), .int .i64 x, .int .i64 y] w fun r w' => r = .returned (.tuple #[]) ∧ Hold (w'.heap[g]? = some (.cells (fcells o) 175 (0, 0)) ∧ Fr (fun k => k = g) w w') := by
  have hlt : g < w.heap.size := (Array.getElem?_eq_some_iff.1 hg).1
  obtain ⟨b, hb⟩ : ∃ b, w.heap.size = b := ⟨_, rfl⟩
  obtain ⟨W, hW⟩ : ∃ W, w.alloc (.cells #[.int .i64 x, .int .i64 y] 173) = W := ⟨_, rfl⟩
  have hB : Bs w W [(b, 173, #[.int .i64 x, .int .i64 y])] := by
    have h1 := (Bs.nil w).alloc #[.int .i64 x, .int .i64 y] 173
    rw [hW] at h1
    simpa [hb] using h1
  have hg2 := (hB.below.block g hlt).trans hg
  have f2 : W.cell? ⟨g, 2, none⟩ = some (.bool true) := cell_heap hg2 2
  have f0 : W.cell? ⟨g, 0, none⟩ = some (.int .i64 p1) := cell_heap hg2 0
  have f1 : W.cell? ⟨g, 1, none⟩ = some (.int .i64 p2) := cell_heap hg2 1
  obtain ⟨lp, hlp⟩ : ∃ lp, lessP (x, y) (p1, p2) = lp := ⟨_, rfl⟩
  obtain ⟨z, hz0⟩ : ∃ z, cmpP (x, y) (p1, p2) = z := ⟨_, rfl⟩
  have hcl := cmp_less (x, y) (p1, p2)
  rw [hz0, hlp] at hcl
  have hz : ∀ k, W.frozen? ⟨g, k, none⟩ = false := fun k => by simp [World.frozen?, hg2]
  have b0 : W.cell? ⟨b, 0, none⟩ = some (.int .i64 x) := hB.cell 0 rfl 0
  have b1 : W.cell? ⟨b, 1, none⟩ = some (.int .i64 y) := hB.cell 0 rfl 1
  have HG := Hold.mk hg2
  have HBl := Hold.mk hB.below
  have HZ := Hold.mk hz0
  have HO := Hold.mk ho
  have HP := Hold.mk hlp
  clear hg hg2 hB hz0 ho hlp
  have HC : Hold (∀ n, Calls Try.prog 164 #[.slice (some ⟨b, 0, none⟩) 2 2, .slice (some ⟨g, 0, none⟩) 2 2] (W.drewN n) fun e w' => e = .returned (.int .i64 z) ∧ W.drewN n = w') := ⟨fun n => by
    have := compare_calls ⟨b, 0, none⟩ ⟨g, 0, none⟩ 2 2 (x, y) (p1, p2) (W.drewN n) b0 b1 f0 f1
    rw [HZ.out] at this
    exact this⟩
  cases lp
  · have HOe : Hold (o = some (p1, p2)) := ⟨by rw [← HO.out]; unfold put; simp only [HP.out]; rfl⟩
    go_enter Try.func148, Try.ntmps148
    go_upto_region 1 with (fail)
    clear hW
    go_big_quiet (exact quiet_left (HC.out _))
    go_wp2
    exact Great.bodyPost_end0 rfl rfl ⟨rfl, ⟨by rw [HOe.out]; exact HG.out, (Fr.of_below _ HBl.out).drewN nq⟩⟩
  · have HOe : Hold (o = some (x, y)) := ⟨by rw [← HO.out]; unfold put; simp only [HP.out]; rfl⟩
    go_enter Try.func148, Try.ntmps148
    go_upto_region 1 with (fail)
    clear hW
    go_big_quiet (exact quiet_left (HC.out _))
    go_wp2
    have hd : (W.drewN nq).heap[g]? = some (.cells (fcells (some (p1, p2))) 175 (0, 0)) := HG.out
    obtain ⟨s1, s2⟩ := set3 hd (.int .i64 x) (.int .i64 y) (.bool true)
    exact Great.bodyPost_end0 rfl rfl ⟨rfl, ⟨by rw [HOe.out]; exact s1, ((Fr.of_below _ HBl.out).drewN nq).trans s2 (fun _ _ h => h)⟩⟩
/-- The finder's put. -/
theorem put_calls (o o' : Option Pair) (x y : Int) (g : Nat) (w : World) (hg : w.heap[g]? = some (.cells (fcells o) 175 (0, 0))) (ho : put o (some (x, y)) = o') :
    Calls Try.prog 148 #[.pointer (some ⟨g, 0, none⟩), .int .i64 x, .int .i64 y] w fun r w' => r = .returned (.tuple #[]) ∧ Hold (w'.heap[g]? = some (.cells (fcells o') 175 (0, 0)) ∧ Fr (fun k => k = g) w w') := by
  cases o with
  | none =>
    have : o' = some (x, y) := ho.symm
    subst this
    exact put_none x y g w hg
  | some p =>
    obtain ⟨p1, p2⟩ := p
    exact put_some x y p1 p2 g w hg o' ho
end Go.Proofs.Ytebhclgnpnlekaa.Chk
