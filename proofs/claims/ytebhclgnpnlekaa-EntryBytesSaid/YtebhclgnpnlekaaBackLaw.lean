/- What is put is what is taken: the plain law behind OctetBack. -/
import Derived.Test.YtebhclgnpnlekaaRdValue
namespace Go.Proofs.Ytebhclgnpnlekaa.Rd
open Go.RowKit Go.Proofs.Ytebhclgnpnlekaa.B Go.Proofs.Ytebhclgnpnlekaa.Cmd Go.Proofs.Ytebhclgnpnlekaa.Oct
open Go.Proofs.Ytebhclgnpnlekaa.Preds (okSet)

theorem pow_pos' (i : Nat) : (0 : Int) < 128 ^ i := by exact_mod_cast Nat.pow_pos (n := i) (show 0 < 128 by decide)
theorem pow_six {i : Nat} (h : 6 ≤ i) : (4398046511104 : Int) ≤ 128 ^ i := by
  have h1 := Nat.pow_le_pow_right (n := 128) (by decide) h
  have e : (128 : Nat) ^ 6 = 4398046511104 := by decide
  rw [e] at h1
  have h3 : ((128 ^ i : Nat) : Int) = (128 : Int) ^ i := Int.natCast_pow ..
  rw [← h3]
  exact Int.ofNat_le.2 h1
theorem snoc_ind {α : Type} {P : List α → Prop} (h0 : P []) (hs : ∀ l a, P l → P (l ++ [a])) (l : List α) : P l := by
  rw [← List.reverse_reverse l]
  induction l.reverse with
  | nil => exact h0
  | cons a t ih => rw [List.reverse_cons]; exact hs _ _ ih
theorem numS_take {l r : List Int} {m : Int} (h : dec 0 0 1 l = .ok m r) : numS (l, 0) = (m, (r, 0)) := by
  unfold numS; rw [if_neg (by simp)]; simp only [h]
/-- A number put is taken. -/
theorem dec_enc (k : Nat) : ∀ (i : Nat) (n u : Int) (rest : List Int), u = 128 ^ i → 0 ≤ n → n + k * u ≤ 1099511627776 → (i = 0 ∨ 0 < k) → dec i n u (enc k ++ rest) = .ok (n + k * u) rest := by
  induction k using Nat.strongRecOn with
  | _ k ih =>
    intro i n u rest hu hn hb hk
    have hu0 : 0 < u := by rw [hu]; exact pow_pos' i
    have hi : i < 6 := by
      rcases hk with hk | hk
      · omega
      · rcases Nat.lt_or_ge i 6 with h | h
        · exact h
        · have h1 := pow_six h
          rw [← hu] at h1
          have h2 : u * 1 ≤ u * k := Int.mul_le_mul_of_nonneg_left (by omega) (by omega)
          rw [Int.mul_comm u k] at h2
          omega
    by_cases h : k < 128
    · rw [enc_small h]
      show dec i n u ((k : Int) :: rest) = _
      simp only [dec]
      rw [if_neg (by omega), if_pos (by omega), if_neg (by
        rintro (⟨h1, h2⟩ | h1)
        · rcases hk with hk | hk <;> omega
        · omega)]
    · rw [enc_great h]
      show dec i n u (((k % 128 + 128 : Nat) : Int) :: (enc (k / 128) ++ rest)) = _
      simp only [dec]
      rw [if_neg (by omega), if_neg (by omega)]
      have e1 : (((k % 128 + 128 : Nat) : Int) - 128) = ((k % 128 : Nat) : Int) := by omega
      rw [e1]
      have hsum : n + ((k % 128 : Nat) : Int) * u + ((k / 128 : Nat) : Int) * (u * 128) = n + k * u := by
        have hk' : (k : Int) = ((k % 128 : Nat) : Int) + 128 * ((k / 128 : Nat) : Int) := by have := Nat.mod_add_div k 128; omega
        have e2 : ((k / 128 : Nat) : Int) * (u * 128) = 128 * ((k / 128 : Nat) : Int) * u := by rw [Int.mul_comm u 128, ← Int.mul_assoc, Int.mul_comm ((k / 128 : Nat) : Int) 128]
        rw [e2, hk', Int.add_mul]
        omega
      rw [ih (k / 128) (by omega) (i + 1) _ (u * 128) rest (by rw [hu, Int.pow_succ]) (by have := Int.mul_nonneg (a := ((k % 128 : Nat) : Int)) (b := u) (by omega) (by omega); omega) (by rw [hsum]; exact hb) (.inr (by omega)), hsum]
theorem numS_enc {n : Int} (h : numOk n = true) (rest : List Int) : numS (enc n.toNat ++ rest, 0) = (n, (rest, 0)) := by
  have hb := of_decide_eq_true h
  have := dec_enc n.toNat 0 0 1 rest rfl (by omega) (by omega) (.inl rfl)
  have e : (0 : Int) + (n.toNat : Int) * 1 = n := by omega
  rw [e] at this
  exact numS_take this
theorem numsS_encs (l : List Int) (ys rest : List Int) (h : numsOk l = true) : numsS l.length (encs (l ++ ys) ++ rest, 0) = (l, (encs ys ++ rest, 0)) := by
  revert ys
  revert h
  refine snoc_ind (P := fun l => numsOk l = true → ∀ ys, numsS l.length (encs (l ++ ys) ++ rest, 0) = (l, (encs ys ++ rest, 0))) (fun _ _ => rfl) ?_ l
  · intro l a ih h ys
    replace ih := fun ys h => ih h ys
    rw [numsOk, List.all_append, Bool.and_eq_true] at h
    have ha : numOk a = true := by simpa using h.2
    rw [List.length_append, List.append_assoc]
    show numsS (l.length + 1) _ = _
    simp only [numsS]
    rw [ih ([a] ++ ys) h.1]
    have e : encs ([a] ++ ys) ++ rest = enc a.toNat ++ (encs ys ++ rest) := by simp [encs]
    simp only [e]
    rw [numS_enc ha]
theorem cmdS_nums {c : CmdD} (h : okCmd c = true) (rest : List Int) : cmdS (encs (nums c) ++ rest, 0) = (c, (rest, 0)) := by
  have := numsS_encs (nums c) [] rest (okCmd_nums h)
  rw [List.append_nil] at this
  have e : numsS 7 (encs (nums c) ++ rest, 0) = (nums c, (rest, 0)) := this
  have ec : cmdOf (nums c) = c := rfl
  unfold cmdS
  rw [e, ec]
  simp [h]
theorem encs_append (a b : List Int) : encs (a ++ b) = encs a ++ encs b := by simp [encs]
theorem cmdsK_nums (l ys : List CmdD) (rest : List Int) (h : okCmds l = true) : cmdsK l.length (encs (cmdNums (l ++ ys)) ++ rest, 0) = (l, (encs (cmdNums ys) ++ rest, 0)) := by
  revert ys
  revert h
  refine snoc_ind (P := fun l => okCmds l = true → ∀ ys, cmdsK l.length (encs (cmdNums (l ++ ys)) ++ rest, 0) = (l, (encs (cmdNums ys) ++ rest, 0))) (fun _ _ => rfl) ?_ l
  · intro l a ih h ys
    replace ih := fun ys h => ih h ys
    rw [okCmds, List.all_append, Bool.and_eq_true] at h
    have ha : okCmd a = true := by simpa using h.2
    rw [List.length_append, List.append_assoc]
    show cmdsK (l.length + 1) _ = _
    simp only [cmdsK]
    rw [ih ([a] ++ ys) h.1]
    have e : encs (cmdNums ([a] ++ ys)) ++ rest = encs (nums a) ++ (encs (cmdNums ys) ++ rest) := by simp [cmdNums, encs]
    simp only [e]
    rw [cmdS_nums ha]
theorem cmdsS_bytes {l : List CmdD} (h : cmdsOk l = true) (rest : List Int) : cmdsS (cmdsBytes l ++ rest, 0) = (l, (rest, 0)) := by
  rw [cmdsOk, Bool.and_eq_true] at h
  have hl := of_decide_eq_true h.2
  have hn : numOk (l.length : Int) = true := decide_eq_true ⟨by omega, by omega⟩
  have e : cmdsBytes l ++ rest = enc ((l.length : Int)).toNat ++ (encs (cmdNums l) ++ rest) := by simp [cmdsBytes, cmdsNums, encs]
  have hk := cmdsK_nums l [] rest h.1
  rw [List.append_nil] at hk
  have hk2 : cmdsK l.length (encs (cmdNums l) ++ rest, 0) = (l, (rest, 0)) := hk
  unfold cmdsS
  rw [e, numS_enc hn]
  simp only [Int.toNat_natCast]
  rw [hk2, if_neg (by omega)]
  simp
theorem okSet_cmds {l : List CmdD} (h : okSet l = true) : cmdsOk l = true := by
  unfold okSet at h
  rw [Bool.and_eq_true, Bool.and_eq_true] at h
  unfold cmdsOk
  rw [h.1.2, h.2]; rfl
/-- A value put is taken. -/
theorem valueS_bytes {t : Int} {p : List CmdD} (h : valueOk t p = true) (rest : List Int) : valueS (valueBytes t p ++ rest, 0) = ((t, p), (rest, 0)) := by
  rw [valueOk, Bool.and_eq_true] at h
  unfold valueS valueBytes
  rw [List.append_assoc, numS_enc h.2]
  simp only
  rw [cmdsS_bytes (okSet_cmds h.1)]
  simp [h.1]

/-- A number taken was put so. -/
theorem dec_canon (l : List Int) : ∀ (i : Nat) (n u m : Int) (r : List Int), Bytes l → 0 < u → 0 ≤ n → dec i n u l = .ok m r → ∃ k : Nat, m = n + k * u ∧ l = enc k ++ r ∧ (i = 0 ∨ 0 < k) ∧ m ≤ 1099511627776 := by
  induction l with
  | nil => intro i n u m r _ _ _ h; simp only [dec] at h; split at h <;> cases h
  | cons x xs ih =>
    intro i n u m r hb hu hn h
    have hx := hb x (List.mem_cons_self ..)
    simp only [dec] at h
    split at h
    · cases h
    · split at h
      · rename_i hx2
        split at h
        · cases h
        · rename_i hno
          injection h with h1 h2
          have hkx : ((x.toNat : Nat) : Int) = x := by omega
          refine ⟨x.toNat, by rw [hkx, h1], ?_, ?_, ?_⟩
          · rw [enc_small (by omega), hkx, h2]; rfl
          · by_cases hi : i = 0
            · exact .inl hi
            · refine .inr ?_
              rcases Nat.eq_zero_or_pos x.toNat with hz | hz
              · exact absurd (Or.inl ⟨by omega, by omega⟩) hno
              · exact hz
          · rw [← h1]
            by_cases hlt : 1099511627776 < n + x * u
            · exact absurd (Or.inr hlt) hno
            · exact Int.not_lt.1 hlt
      · rename_i hx2
        have hm := Int.mul_nonneg (a := x - 128) (b := u) (by omega) (by omega)
        obtain ⟨k, h1, h2, h3, h4⟩ := ih (i + 1) _ (u * 128) m r (fun y hy => hb y (List.mem_cons_of_mem _ hy)) (by omega) (by omega) h
        have hk : 0 < k := by rcases h3 with h3 | h3 <;> omega
        obtain ⟨y, hy⟩ : ∃ y : Nat, x = (y : Int) + 128 := ⟨(x - 128).toNat, by omega⟩
        have hy2 : y < 128 := by omega
        refine ⟨y + 128 * k, ?_, ?_, .inr (by omega), h4⟩
        · rw [h1, hy]
          have e : ((y + 128 * k : Nat) : Int) = (y : Int) + 128 * (k : Int) := by omega
          have e1 : ((y : Int) + 128 - 128) = y := by omega
          have e2 : (k : Int) * (u * 128) = 128 * (k : Int) * u := by rw [Int.mul_comm u 128, ← Int.mul_assoc, Int.mul_comm (k : Int) 128]
          rw [e, Int.add_mul, e1, e2]
          omega
        · rw [enc_great (by omega)]
          have e1 : (y + 128 * k) % 128 = y := by omega
          have e2 : (y + 128 * k) / 128 = k := by omega
          rw [e1, e2, h2, hy]
          rfl
theorem numS_canon {l r : List Int} {m : Int} (hb : Bytes l) (h : numS (l, 0) = (m, (r, 0))) : numOk m = true ∧ l = enc m.toNat ++ r := by
  unfold numS at h
  rw [if_neg (by simp)] at h
  cases hd : dec 0 0 1 l with
  | ok n r' =>
    simp only [hd] at h
    injection h with h1 h2
    injection h2 with h2 _
    subst h1 h2
    obtain ⟨k, e1, e2, _, e3⟩ := dec_canon l 0 0 1 n r' hb (by decide) (by decide) hd
    have : n.toNat = k := by omega
    exact ⟨decide_eq_true ⟨by omega, e3⟩, by rw [this]; exact e2⟩
  | cut => simp only [hd] at h; injection h with _ h2; injection h2 with _ h3; cases h3
  | form => simp only [hd] at h; injection h with _ h2; injection h2 with _ h3; cases h3
theorem Bytes.right {a b : List Int} (h : Bytes (a ++ b)) : Bytes b := fun x hx => h x (List.mem_append_right _ hx)
theorem numsS_canon (k : Nat) : ∀ {l r : List Int} {ns : List Int}, Bytes l → numsS k (l, 0) = (ns, (r, 0)) → numsOk ns = true ∧ l = encs ns ++ r := by
  induction k with
  | zero => intro l r ns _ h; injection h with h1 h2; injection h2 with h2 _; subst h1 h2; exact ⟨rfl, rfl⟩
  | succ k ih =>
    intro l r ns hb h
    simp only [numsS] at h
    obtain ⟨ms, r1, e1, hm⟩ : ∃ ms r e, numsS k (l, 0) = (ms, (r, e)) := ⟨_, _, _, rfl⟩
    rw [hm] at h
    simp only at h
    injection h with h1 h2
    have he : e1 = 0 := by
      by_cases he : e1 = 0
      · exact he
      · rw [numS_err (show (r1, e1).2 ≠ 0 from he)] at h2
        injection h2 with _ h3
    subst he
    obtain ⟨g1, g2⟩ := ih hb hm
    have hb1 : Bytes r1 := by rw [g2] at hb; exact hb.right
    obtain ⟨k1, k2⟩ := numS_canon hb1 (Prod.ext rfl h2)
    rw [← h1]
    refine ⟨by rw [numsOk, List.all_append, Bool.and_eq_true]; exact ⟨g1, by simpa using k1⟩, ?_⟩
    rw [encs_append, g2, List.append_assoc]
    congr 1
    rw [show encs [(numS (r1, 0)).1] = enc (numS (r1, 0)).1.toNat by simp [encs]]
    exact k2
theorem nums_cmdOf {l : List Int} (h : l.length = 7) : nums (cmdOf l) = l := by
  obtain ⟨a, b, c, d, e, f, g, rfl⟩ : ∃ a b c d e f g, l = [a, b, c, d, e, f, g] := by
    match l, h with
    | [a, b, c, d, e, f, g], _ => exact ⟨a, b, c, d, e, f, g, rfl⟩
  rfl
theorem cmdS_canon {l r : List Int} {c : CmdD} (hb : Bytes l) (h : cmdS (l, 0) = (c, (r, 0))) : okCmd c = true ∧ l = encs (nums c) ++ r := by
  obtain ⟨ns, r1, e1, hm⟩ : ∃ ms r e, numsS 7 (l, 0) = (ms, (r, e)) := ⟨_, _, _, rfl⟩
  have hl : ns.length = 7 := by have := numsS_len 7 (l, 0); rw [hm] at this; exact this
  unfold cmdS at h
  rw [hm] at h
  simp only at h
  by_cases he : e1 = 0
  · subst he
    rw [if_neg (by simp)] at h
    by_cases hok : okCmd (cmdOf ns) = true
    · rw [if_pos hok] at h
      injection h with h1 h2
      injection h2 with h2 _
      subst h1 h2
      rw [nums_cmdOf hl]
      exact ⟨hok, (numsS_canon 7 hb hm).2⟩
    · rw [if_neg hok] at h
      injection h with _ h2
      injection h2 with _ h3
      cases h3
  · rw [if_pos he] at h
    injection h with _ h2
    injection h2 with _ h3
    exact absurd h3 he
theorem cmdsK_canon (k : Nat) : ∀ {l r : List Int} {cs : List CmdD}, Bytes l → cmdsK k (l, 0) = (cs, (r, 0)) → okCmds cs = true ∧ l = encs (cmdNums cs) ++ r := by
  induction k with
  | zero => intro l r cs _ h; injection h with h1 h2; injection h2 with h2 _; subst h1 h2; exact ⟨rfl, rfl⟩
  | succ k ih =>
    intro l r cs hb h
    simp only [cmdsK] at h
    obtain ⟨ms, r1, e1, hm⟩ : ∃ ms r e, cmdsK k (l, 0) = (ms, (r, e)) := ⟨_, _, _, rfl⟩
    rw [hm] at h
    simp only at h
    injection h with h1 h2
    have he : e1 = 0 := by
      by_cases he : e1 = 0
      · exact he
      · rw [cmdS_err (show (r1, e1).2 ≠ 0 from he)] at h2
        injection h2 with _ h3
    subst he
    obtain ⟨g1, g2⟩ := ih hb hm
    have hb1 : Bytes r1 := by rw [g2] at hb; exact hb.right
    obtain ⟨k1, k2⟩ := cmdS_canon hb1 (Prod.ext rfl h2)
    rw [← h1]
    refine ⟨by rw [okCmds, List.all_append, Bool.and_eq_true]; exact ⟨g1, by simpa using k1⟩, ?_⟩
    rw [show cmdNums (ms ++ [(cmdS (r1, 0)).1]) = cmdNums ms ++ nums (cmdS (r1, 0)).1 by simp [cmdNums], encs_append, g2, List.append_assoc]
    congr 1
theorem cmdsS_canon {l r : List Int} {cs : List CmdD} (hb : Bytes l) (h : cmdsS (l, 0) = (cs, (r, 0))) : cmdsOk cs = true ∧ l = cmdsBytes cs ++ r := by
  obtain ⟨n, r1, e1, hm⟩ : ∃ n r e, numS (l, 0) = (n, (r, e)) := ⟨_, _, _, rfl⟩
  unfold cmdsS at h
  rw [hm] at h
  simp only at h
  by_cases hbig : 1024 < n
  · rw [if_pos hbig] at h; injection h with _ h2; injection h2 with _ h3; cases h3
  · rw [if_neg hbig] at h
    by_cases he : (cmdsK n.toNat (r1, e1)).2.2 = 0
    · rw [if_neg (by simp [he])] at h
      have he1 : e1 = 0 := by
        by_cases h1 : e1 = 0
        · exact h1
        · have := cmdsK_err (st := (r1, e1)) (j := 0) (k := n.toNat) (by omega) h1
          rw [this] at he
          exact he
      subst he1
      obtain ⟨g1, g2⟩ := numS_canon hb hm
      have hb1 : Bytes r1 := by rw [g2] at hb; exact hb.right
      obtain ⟨k1, k2⟩ := cmdsK_canon n.toNat hb1 h
      have hl : cs.length = n.toNat := by have := cmdsK_len n.toNat (r1, 0); rw [h] at this; exact this
      have hn0 := (of_decide_eq_true g1).1
      refine ⟨by unfold cmdsOk; rw [k1, decide_eq_true (show cs.length ≤ 1024 by omega)]; rfl, ?_⟩
      have hle : (cs.length : Int) = n := by omega
      rw [g2, k2]
      simp [cmdsBytes, cmdsNums, encs, hle]
    · rw [if_pos he] at h
      injection h with _ h2
      rw [h2] at he
      exact absurd rfl he
/-- A value taken was put so. -/
theorem valueS_canon {l r : List Int} {t : Int} {p : List CmdD} (hb : Bytes l) (h : valueS (l, 0) = ((t, p), (r, 0))) : valueOk t p = true ∧ l = valueBytes t p ++ r := by
  obtain ⟨n, r1, e1, hm⟩ : ∃ n r e, numS (l, 0) = (n, (r, e)) := ⟨_, _, _, rfl⟩
  obtain ⟨cs, r2, e2, hc⟩ : ∃ n r e, cmdsS (r1, e1) = (n, (r, e)) := ⟨_, _, _, rfl⟩
  unfold valueS at h
  rw [hm] at h
  simp only at h
  rw [hc] at h
  simp only at h
  by_cases hok : okSet cs = true
  · rw [if_pos hok] at h
    by_cases he : e2 = 0
    · subst he
      rw [if_neg (by simp)] at h
      injection h with h1 h2
      injection h1 with h1 h3
      injection h2 with h2 _
      subst h1 h2 h3
      have he1 : e1 = 0 := by
        by_cases h1 : e1 = 0
        · exact h1
        · unfold cmdsS at hc
          rw [numS_err (show (r1, e1).2 ≠ 0 from h1)] at hc
          simp only at hc
          rw [if_neg (by decide)] at hc
          have : (cmdsK (0 : Int).toNat (r1, e1)) = ([], (r1, e1)) := rfl
          rw [this] at hc
          simp only at hc
          rw [if_pos h1] at hc
          injection hc with _ h2
          injection h2 with _ h3
      subst he1
      obtain ⟨g1, g2⟩ := numS_canon hb hm
      have hb1 : Bytes r1 := by rw [g2] at hb; exact hb.right
      obtain ⟨k1, k2⟩ := cmdsS_canon hb1 hc
      refine ⟨by unfold valueOk; rw [hok, g1]; rfl, ?_⟩
      rw [g2, k2]
      simp [valueBytes]
    · rw [if_pos he] at h
      injection h with _ h2
      injection h2 with _ h3
      exact absurd h3 he
  · rw [if_neg hok] at h
    injection h with _ h2
    injection h2 with _ h3
    cases h3

/-- Where it failed nothing is left. -/
def Clean (st : RSt) : Prop := st.2 ≠ 0 → st.1 = []
theorem numS_clean {st : RSt} (h : Clean st) : Clean (numS st).2 := by
  unfold numS
  split
  · exact h
  · split <;> simp [Clean]
theorem numsS_clean (k : Nat) {st : RSt} (h : Clean st) : Clean (numsS k st).2 := by
  induction k with
  | zero => exact h
  | succ k ih => exact numS_clean ih
theorem cmdS_clean {st : RSt} (h : Clean st) : Clean (cmdS st).2 := by
  unfold cmdS
  split
  · exact numsS_clean 7 h
  · split
    · exact numsS_clean 7 h
    · simp [Clean]
theorem cmdsK_clean (k : Nat) {st : RSt} (h : Clean st) : Clean (cmdsK k st).2 := by
  induction k with
  | zero => exact h
  | succ k ih => exact cmdS_clean ih
theorem cmdsS_clean {st : RSt} (h : Clean st) : Clean (cmdsS st).2 := by
  unfold cmdsS
  split
  · simp [Clean]
  · split
    · exact cmdsK_clean _ (numS_clean h)
    · exact cmdsK_clean _ (numS_clean h)
theorem valueS_clean {st : RSt} (h : Clean st) : Clean (valueS st).2 ∧ ((valueS st).2.2 ≠ 0 → (valueS st).1 = (0, [])) := by
  unfold valueS
  split
  · split
    · exact ⟨cmdsS_clean (numS_clean h), fun _ => rfl⟩
    · rename_i h2
      exact ⟨cmdsS_clean (numS_clean h), fun h3 => absurd h3 (by simpa using h2)⟩
  · exact ⟨by simp [Clean], fun _ => rfl⟩
end Go.Proofs.Ytebhclgnpnlekaa.Rd
