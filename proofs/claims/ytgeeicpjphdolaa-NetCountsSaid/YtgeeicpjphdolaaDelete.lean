/- slices.Delete of one element of a [][]byte whose row is the call's own, by its walk; no condition but that the row is there. -/
import Derived.Test.YtgeeicpjphdolaaO
import Derived.Deep.RegionLaw
import Derived.Lib.SliceRun
namespace Go.Proofs.Ytgeeicpjphdolaa.Delete
open Go.RowKit Go.Proofs.Ytgeeicpjphdolaa.B

/-- What a run of cells written leaves. -/
theorem far {g : Nat} : ∀ (vs : List Value) (o : Nat) {w : World} (k : Nat), k ≠ g → (w.setCells g o vs).heap[k]? = w.heap[k]?
  | [], _, _, _, _ => rfl
  | v :: r, o, w, k, hk => by
    rw [World.setCells, far r (o + 1) k hk]
    exact Below.heap_setCell w ⟨g, o, none⟩ v k hk
theorem same (g : Nat) : ∀ (vs : List Value) (o : Nat) (w : World), (w.setCells g o vs).os = w.os ∧ (w.setCells g o vs).tape = w.tape ∧ (w.setCells g o vs).output = w.output ∧ (w.setCells g o vs).heap.size = w.heap.size
  | [], _, _ => ⟨rfl, rfl, rfl, rfl⟩
  | v :: r, o, w => by
    obtain ⟨h1, h2, h3, h4⟩ := same g r (o + 1) (w.setCell ⟨g, o, none⟩ v)
    rw [World.setCells]
    exact ⟨h1, h2, h3, by rw [h4]; simp [World.setCell]⟩
theorem row {g : Nat} {e : TypeId} : ∀ (vs : List Value) (o : Nat) (w : World) (cur : Array Value), w.heap[g]? = some (.cells cur e (0, 0)) → o + vs.length ≤ cur.size →
    ∃ cur', (w.setCells g o vs).heap[g]? = some (.cells cur' e (0, 0)) ∧ cur'.size = cur.size ∧ cur'.toList = cur.toList.take o ++ vs ++ cur.toList.drop (o + vs.length)
  | [], o, w, cur, h, _ => ⟨cur, h, rfl, by simp⟩
  | v :: r, o, w, cur, h, hl => by
    have h2 := heap_setCell_same w g o cur e v h
    simp only [List.length_cons] at hl
    obtain ⟨cur', h3, h4, h5⟩ := row r (o + 1) (w.setCell ⟨g, o, none⟩ v) _ h2 (by simp; omega)
    refine ⟨cur', h3, by rw [h4]; simp, ?_⟩
    rw [h5, Array.toList_setIfInBounds]
    have ho : o < cur.toList.length := by rw [Array.length_toList]; omega
    rw [List.take_set, List.drop_set_of_lt (by omega)]
    simp only [List.length_cons]
    rw [show o + 1 + r.length = o + (r.length + 1) by omega]
    congr 1
    rw [List.take_succ_eq_append_getElem ho, List.set_append_right _ _ (by rw [List.length_take]; omega)]
    have ho' : o < cur.size := by omega
    simp [Nat.min_eq_left (Nat.le_of_lt ho')]
theorem info_bytes : (Try.prog.info? 22).map (fun i => (i.zero, i.size, i.bytes)) = some (some (.slice none 0 0), 1, 24) := by kernel_rfl
theorem size_bytes : (Try.prog.info? 22).map (·.size) = some 1 := by kernel_rfl
theorem zero_bytes : ∀ w, (zeroValue 22).run Try.prog w = .ok (.slice none 0 0) w := fun w => by
  obtain ⟨i0, hi, hz0, _, _⟩ := info_parts info_bytes
  simp [zeroValue, typeInfo, hi, hz0]

set_option maxHeartbeats 4000000 in
set_option maxRecDepth 100000 in
theorem delete_calls (b c n i : Nat) (cur : Array Value) (w : World) (hb : w.heap[b]? = some (.cells cur 22 (0, 0))) (hn : n ≤ c) (hc : cur.size = c) (hi : i < n) (hm : c ≤ maxLen) (h1 : ∀ u ∈ cur.toList.take n, u.oneCell' = true) :
    Calls Try.prog 84 #[.slice (some ⟨b, 0, none⟩) n c, .int .i64 (i : Int), .int .i64 ((i : Int) + 1)] w fun e w' => e = .returned (.slice (some ⟨b, 0, none⟩) (n - 1) c) ∧ Fr (fun k => k = b) w w' ∧
      ∃ cur' : Array Value, w'.heap[b]? = some (.cells cur' 22 (0, 0)) ∧ cur'.size = c ∧ cur'.toList.take (n - 1) = (cur.toList.take n).eraseIdx i := by
  obtain ⟨i0, hi0, hz0, hz1, hz2⟩ := info_parts info_bytes
  simp only [maxLen] at hm
  have s1 := fun W => Rep.run_cut_to (P := Try.prog) 27 22 .i64 Try.underlying27 size_bytes (some ⟨b, 0, none⟩) n c (i : Int) (by omega) (by omega) W
  have s2 := fun W => Rep.run_cut_from (P := Try.prog) 27 22 .i64 Try.underlying27 size_bytes (some ⟨b, 0, none⟩) n c ((i : Int) + 1) (by omega) (by omega) W
  obtain ⟨news, hnews⟩ : ∃ news, (cur.toList.take n).drop (i + 1) = news := ⟨_, rfl⟩
  obtain ⟨m, hm1⟩ : ∃ m, n - (i + 1) = m := ⟨_, rfl⟩
  have hlen : news.length = m := by rw [← hnews]; simp; omega
  have hcell : ∀ j, j < c → w.cell? ⟨b, j, none⟩ = cur[j]? ∧ (w.cell? ⟨b, j, none⟩).isSome = true ∧ w.frozen? ⟨b, j, none⟩ = false := by
    intro j hj
    refine ⟨by simp [World.cell?, hb], ?_, by simp [World.frozen?, hb]⟩
    simp [World.cell?, hb]
    omega
  have hget : ∀ j u, news[j]? = some u → w.cell? ⟨b, i + 1 + j, none⟩ = some u := by
    intro j u hu
    have hj : j < m := by have := (List.getElem?_eq_some_iff.1 hu).1; omega
    rw [(hcell _ (by omega)).1]
    rw [← hnews, List.getElem?_drop, List.getElem?_take] at hu
    split at hu
    · simpa using hu
    · cases hu
  obtain ⟨AD, hAD, hsrc⟩ : ∃ AD, Rep.cutAddr (some ⟨b, 0, none⟩) c (i + 1) 1 = some AD ∧ ∀ j u, news[j]? = some u → w.drew.cell? (AD.add j) = some u := by
    unfold Rep.cutAddr
    by_cases e : c = i + 1
    · rw [if_pos e]
      exact ⟨_, rfl, fun j u hu => by have := (List.getElem?_eq_some_iff.1 hu).1; omega⟩
    · rw [if_neg e]
      refine ⟨_, rfl, fun j u hu => ?_⟩
      show w.cell? _ = _
      rw [Rep.add_add]
      have h := hget j u hu
      have e2 : (⟨b, 0, none⟩ : Addr).add ((i + 1) * 1 + j) = ⟨b, i + 1 + j, none⟩ := by unfold Addr.add; rw [if_neg (by omega)]; simp
      rw [e2]; exact h
  have z1 : ((i : Int) + 1).toNat = i + 1 := by omega
  have z2 : ((i : Int)).toNat = i := by omega
  rw [z1, hAD, hm1] at s2
  rw [z2] at s1
  have s3 : ∀ t, t < news.length → (w.drew.cell? ⟨b, 0 + i * 1 + t, none⟩).isSome = true ∧ w.drew.frozen? ⟨b, 0 + i * 1 + t, none⟩ = false := by
    intro t ht
    rw [Nat.zero_add, Nat.mul_one]
    exact (hcell (i + t) (by omega)).2
  have hone : ∀ u ∈ news, u.oneCell' = true := by
    intro u hu
    rw [← hnews] at hu
    exact h1 u (List.mem_of_mem_drop hu)
  obtain ⟨W1, hW1⟩ : ∃ W1, w.drew.setCells b (0 + i * 1) news = W1 := ⟨_, rfl⟩
  obtain ⟨cur1, hr1, hr2, hr3⟩ := row news (0 + i * 1) w.drew cur hb (by rw [hlen]; omega)
  rw [hW1] at hr1
  have hsm := same b news (0 + i * 1) w.drew
  rw [hW1] at hsm
  have hcell1 : ∀ j, j < c → (W1.cell? ⟨b, j, none⟩).isSome = true ∧ W1.frozen? ⟨b, j, none⟩ = false := by
    intro j hj
    refine ⟨?_, by simp [World.frozen?, hr1]⟩
    simp [World.cell?, hr1]
    omega
  have hcl : ∀ ty, (Builtin.clear_ #[27] ty #[.slice (some ⟨b, i + m, none⟩) (n - (i + m)) (c - (i + m))]).run Try.prog W1 = .ok (.tuple #[]) (W1.setCells b (i + m) (List.replicate (n - (i + m)) (.slice none 0 0))) :=
    fun ty => Lib.run_clear_slice W1 _ _ ty _ Try.underlying27 zero_bytes rfl rfl b (i + m) _ _ (by omega) (fun t ht => (hcell1 _ (by omega)).1) (fun t ht => (hcell1 _ (by omega)).2)
  have HW1 := Hold.mk hW1
  have HS := Hold.mk (And.intro hsrc (And.intro hone (And.intro s3 hlen)))
  have HR := Hold.mk (And.intro hr1 (And.intro hr2 hr3))
  have HSm := Hold.mk hsm
  have HNews := Hold.mk hnews
  have HM := Hold.mk hm1
  have HC := Hold.mk hc
  have HI0 := Hold.mk hi0
  have HZ1 := Hold.mk hz1
  have hlt : i + m + 1 = n := by omega
  have HLt := Hold.mk hlt
  clear hW1 hsrc hone s3 hr1 hr2 hr3 hsm hnews hm1 hget hcell hcell1 hAD z1 z2 hlen hb h1 hc hi0 hz1 hz0 hz2
  go_enter Try.func84, Try.ntmps84
  go_wp2_with fail
  go_region_law (refine step_append_room rfl (.tmp 22) (.tmp 25) 27 rfl 22 i0 1 Try.underlying27 HI0.out HZ1.out b 0 i c (by simp [Act.eval, Act.put]) AD m (c - (i + 1)) news (by simp [Act.eval, Act.put]) (by rw [HS.out.2.2.2, Nat.mul_one]) HS.out.1 HS.out.2.1 (by omega) HS.out.2.2.1 ?_; rw [HW1.out])
  have hle2 : i + m ≤ n := by omega
  have hle3 : i + m < n := by omega
  clear hlt
  go_wp2
  go_ret
  have hi' := HLt.out
  obtain ⟨cur2, p1, p2, p3⟩ := row (List.replicate (n - (i + m)) (.slice none 0 0)) (i + m) W1 cur1 HR.out.1 (by rw [HR.out.2.1, HC.out, List.length_replicate]; omega)
  have hs2 := same b (List.replicate (n - (i + m)) (.slice none 0 0)) (i + m) W1
  refine ⟨by rw [show n - 1 = i + m by omega]; rfl, ⟨hs2.1.trans HSm.out.1, hs2.2.1.trans HSm.out.2.1, hs2.2.2.1.trans HSm.out.2.2.1, ?_, fun k _ hne => ?_⟩, cur2, p1, by rw [p2, HR.out.2.1, HC.out], ?_⟩
  · rw [hs2.2.2.2, HSm.out.2.2.2]; exact Nat.le_refl _
  · rw [far _ _ k hne, ← HW1.out, far _ _ k hne]; rfl
  · have hnl := HS.out.2.2.2
    have hcs : cur.toList.length = c := by rw [Array.length_toList]; exact HC.out
    have e1 : cur1.toList.take (i + m) = cur.toList.take i ++ news := by
      rw [HR.out.2.2, Nat.zero_add, Nat.mul_one]
      rw [List.take_append_of_le_length (by rw [List.length_append, List.length_take, hcs, hnl]; omega)]
      rw [List.take_of_length_le (by rw [List.length_append, List.length_take, hcs, hnl]; omega)]
    rw [show n - 1 = i + m by omega, p3, List.append_assoc, List.take_append_of_le_length (by rw [List.length_take, Array.length_toList, HR.out.2.1, HC.out]; omega), List.take_take, Nat.min_self, e1, ← HNews.out, List.eraseIdx_eq_take_drop_succ, List.take_take, Nat.min_eq_left (by omega)]
end Go.Proofs.Ytgeeicpjphdolaa.Delete
