/- Law 17's of, and its items, by their walks. No condition. -/
import Derived.Test.YtebhclgnpnlekaaTimLaw
import Derived.Test.YtebhclgnpnlekaaOrdL
namespace Go.Proofs.Ytebhclgnpnlekaa.Ord
open Go.RowKit Go.Proofs.Ytebhclgnpnlekaa.B Go.Proofs.Ytebhclgnpnlekaa.Cmd Go.Proofs.Ytebhclgnpnlekaa.Agg Go.Proofs.Ytebhclgnpnlekaa.Ent
open Go.Proofs.Ytebhclgnpnlekaa.Pr (CO arr arr_size arr_one isC zeroC IO info_i wp_pushC)
def bySym (s : Int) (l : List CmdD) : List CmdD := l.filter fun c => c.sym == s
theorem bySym_cmds (s : Int) (os : List QE) : bySym s (cmds os) = cmds (ofSym s os) := by
  unfold bySym cmds ofSym
  rw [List.filter_map]
  rfl
set_option maxHeartbeats 4000000 in
set_option maxRecDepth 100000 in
theorem of_sym_calls (A : Option Addr) (c n : Nat) (xs : List CmdD) (s : Int) (I : Nat → Prop) (w : World) (hn : n = xs.length) (h : Rep.Row cmdRep I w A xs) (hl : xs.length ≤ 1000000) :
    Calls Try.prog 71 #[.slice A n c, .int .i64 s] w fun r w' => ∃ v, r = .returned v ∧ Hold (CO w w' v (bySym s xs)) := by
  subst hn
  have HX := Hold.mk h
  have HL := Hold.mk hl
  have hm := h.len_le
  clear h hl
  go_enter Try.func71, Try.ntmps71
  go_wp2
  go_loopw [5, 6] (fun v s' wr => ∃ i : Nat, i ≤ xs.length ∧ s' = .int .i64 (i : Int) ∧ Hold (CO w wr v (bySym s (xs.take i)))) (fun _ s _ => xs.length - (intOf s).toNat)
  case atStart => exact ⟨0, by omega, rfl, ⟨CO.nil w⟩⟩
  case round =>
    obtain ⟨i, hi, rfl, HO⟩ := hrel
    by_cases hlt : i < xs.length
    · have l1 : (i : Int) < (xs.length : Int) := by omega
      obtain ⟨ad, p, rfl, hp, _, ⟨c0, c1, c2, c3, c4, c5, c6, hw⟩⟩ := row_cmd (HX.out.below HO.out.bel) i hlt
      obtain ⟨x, hx⟩ : ∃ x, xs[i] = x := ⟨_, rfl⟩
      rw [hx] at c0 c1 c2 c3 c4 c5 c6 hw
      have HS : Hold (bySym s (xs.take (i + 1)) = bySym s (xs.take i) ++ (if x.sym = s then [x] else [])) := ⟨by
        rw [List.take_succ_eq_append_getElem hlt, hx]
        unfold bySym
        rw [List.filter_append]
        congr 1
        by_cases hs : x.sym = s <;> simp [hs]⟩
      have HW := Hold.mk hw
      have HLn : Hold ((bySym s (xs.take i)).length ≤ 1000000) := ⟨by have := List.length_filter_le (fun c : CmdD => c.sym == s) (xs.take i); rw [List.length_take] at this; unfold bySym; have := HL.out; omega⟩
      clear hx hw
      obtain ⟨P, hP⟩ : ∃ P, bySym s (xs.take i) = P := ⟨_, rfl⟩
      rw [hP] at HO HS HLn
      clear hP
      by_cases hs : x.sym = s
      · have HSx : Hold (bySym s (xs.take (i + 1)) = P ++ [x]) := ⟨by rw [HS.out, if_pos hs]⟩
        have hd : (x.sym == s) = true := by simpa using hs
        clear hs
        go_wp2_with (at_builtin; refine wp_pushC rfl (.tmp 20) (.tmp 25) rfl u5 P x rfl rfl HO.out HW.out HLn.out ?_; intro A1 c1 w1 HG)
        exact ⟨⟨i + 1, by omega, by go_num, by rw [HSx.out]; exact HG⟩, by simp [intOf]; omega⟩
      · have HSx : Hold (bySym s (xs.take (i + 1)) = P) := ⟨by rw [HS.out, if_neg hs, List.append_nil]⟩
        have hd : (x.sym == s) = false := by simpa using hs
        go_wp2
        exact ⟨⟨i + 1, by omega, by go_num, by rw [HSx.out]; exact HO⟩, by simp [intOf]; omega⟩
    · obtain rfl : i = xs.length := by omega
      go_wp2
      go_ret
      exact ⟨_, rfl, ⟨by have := HO.out; rwa [List.take_length] at this⟩⟩
/-- An item: its symbol, and how it stands in time. -/
abbrev ItemD := Int × Int × Unit
abbrev itemRep : Rep ItemD := Rep.prod (Rep.int .u8) (Rep.prod (Rep.int .u16) Rep.unit)
theorem opens_item : Rep.Opens Try.prog itemRep 106 := by
  refine Rep.opens_struct Try.underlying106 (by kernel_rfl) ?_
  exact Rep.opensF_cons rfl (Rep.opens_int Try.underlying5 (by kernel_rfl)) (Rep.opensF_cons rfl (Rep.opens_int Try.underlying104 (by kernel_rfl)) (Rep.opensF_nil _))
theorem row_item {I : Nat → Prop} {w : World} {A : Option Addr} {l : List ItemD} (h : Rep.Row itemRep I w A l) (i : Nat) (hi : i < l.length) : ∃ ad p, A = some ad ∧ ad.add (i * 2) = p ∧ p.block < w.heap.size ∧ w.cell? p = some (.int .u8 l[i].1) ∧ w.cell? ⟨p.block, p.off + 1, none⟩ = some (.int .u16 l[i].2.1) ∧ 0 ≤ l[i].1 ∧ l[i].1 < 256 ∧ 0 ≤ l[i].2.1 ∧ l[i].2.1 < 65536 := by
  obtain ⟨ad, cs, e, _, hlt, hk, hc⟩ := h.at i hi
  obtain ⟨_, _, rfl, ⟨rfl, w1⟩, _, _, rfl, ⟨rfl, w2⟩, rfl⟩ := hk
  have h0 := hc 0 _ rfl
  have h1 := hc 1 _ rfl
  have e2 : i * (itemRep.sz) = i * 2 := rfl
  rw [e2] at h0 h1
  rw [Cmd.add_fld ad (i * 2) 1 (by omega)] at h1
  have b1 := bounds_u8 w1
  have b2 := bounds_u16 w2
  exact ⟨ad, _, e, rfl, by rw [Rep.add_block]; exact hlt, h0, h1, b1.1, by omega, b2.1, by omega⟩
end Go.Proofs.Ytebhclgnpnlekaa.Ord
