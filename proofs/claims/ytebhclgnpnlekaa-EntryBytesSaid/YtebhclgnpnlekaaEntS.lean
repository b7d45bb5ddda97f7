/- An entry out of bytes, as plain functions; its bytes are its own: the plain law. -/
import Derived.Test.YtebhclgnpnlekaaBackLaw
namespace Go.Proofs.Ytebhclgnpnlekaa.Ent
open Go.Proofs.Ytebhclgnpnlekaa.B Go.Proofs.Ytebhclgnpnlekaa.Cmd Go.Proofs.Ytebhclgnpnlekaa.Oct Go.Proofs.Ytebhclgnpnlekaa.Rd
/-- What is read: a command, three numbers, a value, a number, a value, two numbers, a value. -/
structure EP where
  c : CmdD
  pr : Int
  lo : Int
  hi : Int
  f : Int × List CmdD
  ab : Int
  a : Int × List CmdD
  fr : Int
  dn : Int
  v : Int × List CmdD
def entS (st : RSt) : EP × RSt :=
  let s1 := cmdS st; let s2 := numS s1.2; let s3 := numS s2.2; let s4 := numS s3.2; let s5 := valueS s4.2; let s6 := numS s5.2; let s7 := valueS s6.2; let s8 := numS s7.2; let s9 := numS s8.2; let s10 := valueS s9.2
  (⟨s1.1, s2.1, s3.1, s4.1, s5.1, s6.1, s7.1, s8.1, s9.1, s10.1⟩, s10.2)
def EP.bytes (p : EP) (rest : List Int) : List Int := encs (nums p.c) ++ (enc p.pr.toNat ++ (enc p.lo.toNat ++ (enc p.hi.toNat ++ (valueBytes p.f.1 p.f.2 ++ (enc p.ab.toNat ++ (valueBytes p.a.1 p.a.2 ++ (enc p.fr.toNat ++ (enc p.dn.toNat ++ (valueBytes p.v.1 p.v.2 ++ rest)))))))))
structure EP.ok (p : EP) : Prop where
  c : okCmd p.c = true
  pr : numOk p.pr = true
  lo : numOk p.lo = true
  hi : numOk p.hi = true
  f : valueOk p.f.1 p.f.2 = true
  ab : numOk p.ab = true
  a : valueOk p.a.1 p.a.2 = true
  fr : numOk p.fr = true
  dn : numOk p.dn = true
  v : valueOk p.v.1 p.v.2 = true
theorem entS_bytes (p : EP) (h : p.ok) (rest : List Int) : entS (p.bytes rest, 0) = (p, (rest, 0)) := by
  obtain ⟨c, pr, lo, hi, ⟨f1, f2⟩, ab, ⟨a1, a2⟩, fr, dn, ⟨v1, v2⟩⟩ := p
  obtain ⟨h0, h1, h2, h3, h4, h5, h6, h7, h8, h9⟩ := h
  unfold entS EP.bytes
  simp only [cmdS_nums h0, numS_enc h1, numS_enc h2, numS_enc h3, valueS_bytes h4, numS_enc h5, valueS_bytes h6, numS_enc h7, numS_enc h8, valueS_bytes h9]
theorem num_back {st : RSt} (h : (numS st).2.2 = 0) : st.2 = 0 := by
  unfold numS at h
  split at h
  · exact h
  · rename_i hn; simpa using hn
theorem nums_back (k : Nat) : ∀ {st : RSt}, (numsS k st).2.2 = 0 → st.2 = 0 := by
  induction k with
  | zero => intro st h; exact h
  | succ k ih => intro st h; exact ih (num_back h)
theorem cmd_back {st : RSt} (h : (cmdS st).2.2 = 0) : st.2 = 0 := by
  unfold cmdS at h
  split at h
  · rename_i hn; exact absurd h hn
  · split at h
    · exact nums_back 7 h
    · simp at h
theorem cmdsK_back (k : Nat) : ∀ {st : RSt}, (cmdsK k st).2.2 = 0 → st.2 = 0 := by
  induction k with
  | zero => intro st h; exact h
  | succ k ih => intro st h; exact ih (cmd_back h)
theorem cmds_back {st : RSt} (h : (cmdsS st).2.2 = 0) : st.2 = 0 := by
  unfold cmdsS at h
  split at h
  · simp at h
  · split at h
    · rename_i hn; exact absurd h hn
    · exact num_back (cmdsK_back _ h)
theorem value_back {st : RSt} (h : (valueS st).2.2 = 0) : st.2 = 0 := by
  unfold valueS at h
  split at h
  · split at h
    · rename_i hn; exact absurd h hn
    · exact num_back (cmds_back h)
  · simp at h
theorem num_step' {st : RSt} (hb : Bytes st.1) (h0 : st.2 = 0) (h : (numS st).2.2 = 0) : numOk (numS st).1 = true ∧ st.1 = enc (numS st).1.toNat ++ (numS st).2.1 := by
  obtain ⟨l, e⟩ := st
  obtain rfl : e = 0 := h0
  exact numS_canon hb (Prod.ext rfl (Prod.ext rfl h))
theorem cmd_step' {st : RSt} (hb : Bytes st.1) (h0 : st.2 = 0) (h : (cmdS st).2.2 = 0) : okCmd (cmdS st).1 = true ∧ st.1 = encs (nums (cmdS st).1) ++ (cmdS st).2.1 := by
  obtain ⟨l, e⟩ := st
  obtain rfl : e = 0 := h0
  exact cmdS_canon hb (Prod.ext rfl (Prod.ext rfl h))
theorem value_step' {st : RSt} (hb : Bytes st.1) (h0 : st.2 = 0) (h : (valueS st).2.2 = 0) : valueOk (valueS st).1.1 (valueS st).1.2 = true ∧ st.1 = valueBytes (valueS st).1.1 (valueS st).1.2 ++ (valueS st).2.1 := by
  obtain ⟨l, e⟩ := st
  obtain rfl : e = 0 := h0
  exact valueS_canon hb (Prod.ext rfl (Prod.ext rfl h))
theorem entS_canon {l : List Int} (hb : Bytes l) (h : (entS (l, 0)).2.2 = 0) : (entS (l, 0)).1.ok ∧ l = (entS (l, 0)).1.bytes (entS (l, 0)).2.1 := by
  unfold entS at h ⊢
  dsimp only at h ⊢
  generalize hs1 : cmdS (l, 0) = s1 at h ⊢
  generalize hs2 : numS s1.2 = s2 at h ⊢
  generalize hs3 : numS s2.2 = s3 at h ⊢
  generalize hs4 : numS s3.2 = s4 at h ⊢
  generalize hs5 : valueS s4.2 = s5 at h ⊢
  generalize hs6 : numS s5.2 = s6 at h ⊢
  generalize hs7 : valueS s6.2 = s7 at h ⊢
  generalize hs8 : numS s7.2 = s8 at h ⊢
  generalize hs9 : numS s8.2 = s9 at h ⊢
  generalize hs10 : valueS s9.2 = s10 at h ⊢
  have e9 := value_back (st := s9.2) (by rw [hs10]; exact h)
  have e8 := num_back (st := s8.2) (by rw [hs9]; exact e9)
  have e7 := num_back (st := s7.2) (by rw [hs8]; exact e8)
  have e6 := value_back (st := s6.2) (by rw [hs7]; exact e7)
  have e5 := num_back (st := s5.2) (by rw [hs6]; exact e6)
  have e4 := value_back (st := s4.2) (by rw [hs5]; exact e5)
  have e3 := num_back (st := s3.2) (by rw [hs4]; exact e4)
  have e2 := num_back (st := s2.2) (by rw [hs3]; exact e3)
  have e1 := num_back (st := s1.2) (by rw [hs2]; exact e2)
  have k1 := cmd_step' (st := (l, 0)) hb rfl (by rw [hs1]; exact e1)
  rw [hs1] at k1
  have b1 : Bytes s1.2.1 := Bytes.right (by rw [← k1.2]; exact hb)
  have k2 := num_step' b1 e1 (by rw [hs2]; exact e2)
  rw [hs2] at k2
  have b2 : Bytes s2.2.1 := Bytes.right (by rw [← k2.2]; exact b1)
  have k3 := num_step' b2 e2 (by rw [hs3]; exact e3)
  rw [hs3] at k3
  have b3 : Bytes s3.2.1 := Bytes.right (by rw [← k3.2]; exact b2)
  have k4 := num_step' b3 e3 (by rw [hs4]; exact e4)
  rw [hs4] at k4
  have b4 : Bytes s4.2.1 := Bytes.right (by rw [← k4.2]; exact b3)
  have k5 := value_step' b4 e4 (by rw [hs5]; exact e5)
  rw [hs5] at k5
  have b5 : Bytes s5.2.1 := Bytes.right (by rw [← k5.2]; exact b4)
  have k6 := num_step' b5 e5 (by rw [hs6]; exact e6)
  rw [hs6] at k6
  have b6 : Bytes s6.2.1 := Bytes.right (by rw [← k6.2]; exact b5)
  have k7 := value_step' b6 e6 (by rw [hs7]; exact e7)
  rw [hs7] at k7
  have b7 : Bytes s7.2.1 := Bytes.right (by rw [← k7.2]; exact b6)
  have k8 := num_step' b7 e7 (by rw [hs8]; exact e8)
  rw [hs8] at k8
  have b8 : Bytes s8.2.1 := Bytes.right (by rw [← k8.2]; exact b7)
  have k9 := num_step' b8 e8 (by rw [hs9]; exact e9)
  rw [hs9] at k9
  have b9 : Bytes s9.2.1 := Bytes.right (by rw [← k9.2]; exact b8)
  have k10 := value_step' b9 e9 (by rw [hs10]; exact h)
  rw [hs10] at k10
  refine ⟨⟨k1.1, k2.1, k3.1, k4.1, k5.1, k6.1, k7.1, k8.1, k9.1, k10.1⟩, ?_⟩
  have q := k1.2
  simp only at q
  rw [q]
  unfold EP.bytes
  dsimp only
  rw [k2.2, k3.2, k4.2, k5.2, k6.2, k7.2, k8.2, k9.2, k10.2]
end Go.Proofs.Ytebhclgnpnlekaa.Ent
