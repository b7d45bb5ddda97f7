/- For all integers b, node and n the ballot functions of package stamp (Above, Owner) answer as the document's reference does, whose search goes up one by one; no condition. -/
import Derived.Test.YtgeeicpjphdolaaPStampBallotsx2
namespace Go.Proofs.Ytgeeicpjphdolaa.Pure
open Go.RowKit Go.Proofs.Ytgeeicpjphdolaa.PStampBallots Go.Proofs.YtgeeicpjphdolaaW.PrintWords Go.Proofs.YtgeeicpjphdolaaW.PrintLast
namespace StampBallotsAid

theorem alive_ok : lictorlaw01_alive.f 20 = some true := by decide +kernel

theorem int_bounds {a : Int} (h : (Lit.int .i64 a).wf = true) : -9223372036854775808 ≤ a ∧ a ≤ 9223372036854775807 := by
  have hmin : IntKind.i64.min = -9223372036854775808 := rfl
  have hmax : IntKind.i64.max = 9223372036854775807 := rfl
  simp only [Lit.wf, Bool.and_eq_true, decide_eq_true_eq] at h; omega

theorem right_cases (n : Int) : (stamp_Right.f n = some false ∧ ¬ (3 ≤ n ∧ n ≤ 9)) ∨ (stamp_Right.f n = some true ∧ 3 ≤ n ∧ n ≤ 9) := by
  unfold stamp_Right.f
  by_cases h : n ≥ 3
  · by_cases h2 : n ≤ 9
    · right; simp [h, h2]
    · left; simp [h2]
  · left; simp [h]

theorem owner_eq (b n : Int) : stamp_Owner.f b n = lictorref01_Owner.f b n := rfl

theorem owner_in (x n : Int) (h : 3 ≤ n) (h9 : n ≤ 9) (hx : 2 ≤ x) (hm : x ≤ 1048576) : lictorref01_Owner.f x n = some ((x - 2) % n) := by
  have hr : lictorref01_Right.f n = some true := by unfold lictorref01_Right.f; simp [h, h9]
  have hw : wrap64 (x - 2) = x - 2 := by unfold wrap64; omega
  have e : Int.tmod (x - 2) n = (x - 2) % n := Int.tmod_eq_emod_of_nonneg (by omega)
  unfold lictorref01_Owner.f
  rw [hr]; simp only [Option.bind_some, if_true]
  rw [if_neg (by omega), if_neg (by omega), if_neg (by omega), hw, e]

/-- The reference's search comes to the first number from x on that is the node's. -/
theorem search (node n : Int) (h3 : 3 ≤ n) (h9 : n ≤ 9) (h0 : 0 ≤ node) (hn : node < n) (d : Nat) :
    ∀ (k : Nat) (x : Int), 2 ≤ x → x ≤ 1048576 → (node - (x - 2)) % n = (d : Int) → d < k →
      lictorref01_Above.l0 k node n x = some (if x + d > 1048576 then (0, 8) else (x + d, 0)) := by
  induction d with
  | zero =>
    intro k x hx hm hd hk
    obtain ⟨k, rfl⟩ : ∃ m, k = m + 1 := ⟨k - 1, by omega⟩
    have e : (x - 2) % n = node := by
      have : n = 3 ∨ n = 4 ∨ n = 5 ∨ n = 6 ∨ n = 7 ∨ n = 8 ∨ n = 9 := by omega
      rcases this with rfl | rfl | rfl | rfl | rfl | rfl | rfl <;> omega
    simp only [lictorref01_Above.l0, owner_in x n h3 h9 hx hm, Option.bind_some, e, if_true]
    rw [if_neg (by omega)]; simp
  | succ d ih =>
    intro k x hx hm hd hk
    obtain ⟨k, rfl⟩ : ∃ m, k = m + 1 := ⟨k - 1, by omega⟩
    have e : (x - 2) % n ≠ node ∧ (node - (x + 1 - 2)) % n = (d : Int) := by
      have : n = 3 ∨ n = 4 ∨ n = 5 ∨ n = 6 ∨ n = 7 ∨ n = 8 ∨ n = 9 := by omega
      rcases this with rfl | rfl | rfl | rfl | rfl | rfl | rfl <;> omega
    have hw : wrap64 (x + 1) = x + 1 := by unfold wrap64; omega
    simp only [lictorref01_Above.l0, owner_in x n h3 h9 hx hm, Option.bind_some, hw]
    rw [if_neg e.1]
    by_cases hb : x + 1 > 1048576
    · rw [if_pos hb, if_pos (by omega)]
    · rw [if_neg hb, ih k (x + 1) (by omega) (by omega) e.2 (by omega)]
      have : x + 1 + (d : Int) = x + ((d + 1 : Nat) : Int) := by omega
      rw [this]

theorem above_in (b node n : Int) (h3 : 3 ≤ n) (h9 : n ≤ 9) (h0 : 0 ≤ node) (hn : node < n) (hb : b < 1048576) (hlo : -9223372036854775808 ≤ b) :
    stamp_Above.f 20 b node n = lictorref01_Above.f 20 b node n ∧ ∃ r, lictorref01_Above.f 20 b node n = some r := by
  have hr : stamp_Right.f n = some true := by unfold stamp_Right.f; simp [h3, h9]
  have hr' : lictorref01_Right.f n = some true := hr
  have e0 : ¬ node < 0 := by omega
  have e1 : decide (node ≥ n) = false := by simp; omega
  have e2 : ¬ b ≥ 1048576 := by omega
  have hw1 : wrap64 (b + 1) = b + 1 := by unfold wrap64; omega
  have hw2 : wrap64 (2 + node) = 2 + node := by unfold wrap64; omega
  have hmx : 2 ≤ mx (b + 1) 2 ∧ mx (b + 1) 2 ≤ 1048576 ∧ (mx (b + 1) 2 = b + 1 ∧ b ≥ 1 ∨ mx (b + 1) 2 = 2 ∧ b ≤ 1) := by unfold mx; omega
  generalize mx (b + 1) 2 = x at hmx
  obtain ⟨hx, hxm, hxb⟩ := hmx
  have hd : 0 ≤ (node - (x - 2)) % n ∧ (node - (x - 2)) % n < n := ⟨Int.emod_nonneg _ (by omega), Int.emod_lt_of_pos _ (by omega)⟩
  obtain ⟨d, hdd⟩ := Int.eq_ofNat_of_zero_le hd.1
  have href : lictorref01_Above.f 20 b node n = some (if x + d > 1048576 then (0, 8) else (x + d, 0)) := by
    have hs := search node n h3 h9 h0 hn d 19 x hx hxm hdd (by omega)
    have hmx2 : mx (b + 1) 2 = x := by unfold mx; omega
    simp only [lictorref01_Above.f, hr', Option.bind_some, if_true, if_neg e0, lictorref01_Above.j0, e1, if_neg e2, hw1, hmx2]
    simpa using hs
  refine ⟨?_, _, href⟩
  rw [href]
  simp only [stamp_Above.f, hr, Option.bind_some, if_true, if_neg e0, stamp_Above.j0, e1, if_neg e2, hw2]
  rw [if_neg (by simp)]
  by_cases hge : b ≥ 2 + node
  · rw [if_pos hge, if_neg (by omega)]
    have ew : wrap64 (b - (2 + node)) = b - (2 + node) := by unfold wrap64; omega
    have et : Int.tdiv (b - (2 + node)) n = (b - (2 + node)) / n := Int.tdiv_eq_ediv_of_nonneg (by omega)
    rw [ew, et]
    have key : wrap64 (2 + node + wrap64 (wrap64 (wrap64 ((b - (2 + node)) / n) + 1) * n)) = x + d := by
      have hx1 : x = b + 1 := by omega
      subst hx1
      have : n = 3 ∨ n = 4 ∨ n = 5 ∨ n = 6 ∨ n = 7 ∨ n = 8 ∨ n = 9 := by omega
      rcases this with rfl | rfl | rfl | rfl | rfl | rfl | rfl <;> (unfold wrap64; omega)
    rw [key]
    split <;> rfl
  · rw [if_neg hge]
    have key : 2 + node = x + d := by
      have : n = 3 ∨ n = 4 ∨ n = 5 ∨ n = 6 ∨ n = 7 ∨ n = 8 ∨ n = 9 := by omega
      rcases this with rfl | rfl | rfl | rfl | rfl | rfl | rfl <;> omega
    rw [key]
    split <;> rfl

theorem above_eq (b node n : Int) (hlo : -9223372036854775808 ≤ b) : stamp_Above.f 20 b node n = lictorref01_Above.f 20 b node n ∧ ∃ r, lictorref01_Above.f 20 b node n = some r := by
  rcases right_cases n with ⟨hr, hn⟩ | ⟨hr, h3, h9⟩
  · have hr' : lictorref01_Right.f n = some false := hr
    have e1 : stamp_Above.f 20 b node n = some (0, 1) := by simp [stamp_Above.f, hr, stamp_Above.j0]
    have e2 : lictorref01_Above.f 20 b node n = some (0, 1) := by simp [lictorref01_Above.f, hr', lictorref01_Above.j0]
    exact ⟨by rw [e1, e2], _, e2⟩
  · have hr' : lictorref01_Right.f n = some true := hr
    by_cases h0 : node < 0
    · have e1 : stamp_Above.f 20 b node n = some (0, 1) := by simp [stamp_Above.f, hr, h0, stamp_Above.j0]
      have e2 : lictorref01_Above.f 20 b node n = some (0, 1) := by simp [lictorref01_Above.f, hr', h0, lictorref01_Above.j0]
      exact ⟨by rw [e1, e2], _, e2⟩
    · by_cases hn : node ≥ n
      · have e1 : stamp_Above.f 20 b node n = some (0, 1) := by simp [stamp_Above.f, hr, h0, hn, stamp_Above.j0]
        have e2 : lictorref01_Above.f 20 b node n = some (0, 1) := by simp [lictorref01_Above.f, hr', h0, hn, lictorref01_Above.j0]
        exact ⟨by rw [e1, e2], _, e2⟩
      · by_cases hb : b ≥ 1048576
        · have e1 : stamp_Above.f 20 b node n = some (0, 8) := by simp [stamp_Above.f, hr, h0, hn, hb, stamp_Above.j0]
          have e2 : lictorref01_Above.f 20 b node n = some (0, 8) := by simp [lictorref01_Above.f, hr', h0, hn, hb, lictorref01_Above.j0]
          exact ⟨by rw [e1, e2], _, e2⟩
        · exact above_in b node n h3 h9 (by omega) (by omega) (by omega) hlo

theorem owner_some (b n : Int) : ∃ r, lictorref01_Owner.f b n = some r := by
  unfold lictorref01_Owner.f
  rcases right_cases n with ⟨hr, hn⟩ | ⟨hr, h3, h9⟩
  · have hr' : lictorref01_Right.f n = some false := hr
    exact ⟨-1, by simp [hr']⟩
  · have hr' : lictorref01_Right.f n = some true := hr
    rw [hr']; simp only [Option.bind_some, if_true]
    split
    · exact ⟨_, rfl⟩
    · split
      · exact ⟨_, rfl⟩
      · rw [if_neg (by omega)]; exact ⟨_, rfl⟩

end StampBallotsAid
open StampBallotsAid

theorem StampBallots : lictorlaw01_StampBallots.Pure := by
  intro b node n hb _ _
  refine ⟨20, ?_⟩
  obtain ⟨e, r, hr⟩ := above_eq b node n (int_bounds hb).1
  obtain ⟨o, ho⟩ := owner_some b n
  simp [lictorlaw01_StampBallots.f, alive_ok, e, hr, owner_eq, ho]

end Go.Proofs.Ytgeeicpjphdolaa.Pure
