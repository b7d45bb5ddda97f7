/- An entry, as an argument: how it is read. No condition. -/
import Derived.Test.YtebhclgnpnlekaaEnt3
namespace Go.Proofs.Ytebhclgnpnlekaa.EntRd
open Go.RowKit Go.Proofs.Ytebhclgnpnlekaa.B Go.Proofs.Ytebhclgnpnlekaa.Cmd Go.Proofs.Ytebhclgnpnlekaa.Agg Go.Proofs.Ytebhclgnpnlekaa.Ent
abbrev ValD := Int × List CmdD × Unit
abbrev valRep : Rep ValD := Rep.prod (Rep.int .i64) (Rep.prod (Rep.slice cmdRep) Rep.unit)
theorem opens_val : Rep.Opens Try.prog valRep 34 := by
  refine Rep.opens_struct Try.underlying34 (by kernel_rfl) ?_
  exact Rep.opensF_cons rfl (Rep.opens_int Try.underlying3 (by kernel_rfl)) (Rep.opensF_cons rfl (Rep.opens_slice Try.underlying23 (by kernel_rfl) (by decide) opens_cmd) (Rep.opensF_nil _))
/-- An entry: its command, what is promised, LOW, HIGH, the fast value, a ballot and its value, whether it is freed, and done, and its value. -/
abbrev EntD := CmdD × Int × Int × Int × ValD × Int × ValD × Bool × Bool × ValD × Unit
abbrev entRep : Rep EntD := Rep.prod cmdRep (Rep.prod (Rep.int .i64) (Rep.prod (Rep.int .i64) (Rep.prod (Rep.int .i64) (Rep.prod valRep (Rep.prod (Rep.int .i64) (Rep.prod valRep (Rep.prod Rep.bool (Rep.prod Rep.bool (Rep.prod valRep Rep.unit)))))))))
theorem opens_ent : Rep.Opens Try.prog entRep 70 := by
  have i3 := Rep.opens_int Try.underlying3 (by kernel_rfl)
  have ib := Rep.opens_bool Try.underlying4 (by kernel_rfl)
  refine Rep.opens_struct Try.underlying70 (by kernel_rfl) ?_
  exact Rep.opensF_cons rfl opens_cmd (Rep.opensF_cons rfl i3 (Rep.opensF_cons rfl i3 (Rep.opensF_cons rfl i3 (Rep.opensF_cons rfl opens_val (Rep.opensF_cons rfl i3 (Rep.opensF_cons rfl opens_val (Rep.opensF_cons rfl ib (Rep.opensF_cons rfl ib (Rep.opensF_cons rfl opens_val (Rep.opensF_nil _))))))))))
theorem ent_read {I : Nat → Prop} {w : World} {a : EntD} {cs : Array Value} (h : entRep.K I w a cs.toList) : ∃ e lf la lw, cs = ER.cells e ∧ EAt w e lf la lw := by
  obtain ⟨⟨i0, i1, i2, i3, i4, i5, i6⟩, pr, lo, hi, ⟨ft, lf, _⟩, ab, ⟨a_t, la, _⟩, fr, dn, ⟨vt, lw, _⟩, _⟩ := a
  obtain ⟨_, _, e1, ⟨rfl, hcw⟩, _, _, rfl, ⟨rfl, w1⟩, _, _, rfl, ⟨rfl, w2⟩, _, _, rfl, ⟨rfl, w3⟩, _, _, rfl, ⟨_, _, rfl, ⟨rfl, w4⟩, _, _, rfl, ⟨A1, c1, rfl, hl1, hn1, hr1⟩, rfl⟩, _, _, rfl, ⟨rfl, w5⟩, _, _, rfl, ⟨_, _, rfl, ⟨rfl, w6⟩, _, _, rfl, ⟨A2, c2, rfl, hl2, hn2, hr2⟩, rfl⟩, _, _, rfl, rfl, _, _, rfl, rfl, _, _, rfl, ⟨_, _, rfl, ⟨rfl, w7⟩, _, _, rfl, ⟨A3, c3, rfl, hl3, hn3, hr3⟩, rfl⟩, rfl⟩ := h
  refine ⟨⟨⟨i0, i1, i2, i3, i4, i5, i6⟩, pr, lo, hi, ⟨ft, A1, lf.length, c1⟩, ab, ⟨a_t, A2, la.length, c2⟩, fr, dn, ⟨vt, A3, lw.length, c3⟩⟩, lf, la, lw, ?_, hcw, w1, w2, w3, w5, ⟨rfl, hr1.move fun _ _ _ => ⟨trivial, rfl⟩, w4⟩, ⟨rfl, hr2.move fun _ _ _ => ⟨trivial, rfl⟩, w6⟩, ⟨rfl, hr3.move fun _ _ _ => ⟨trivial, rfl⟩, w7⟩⟩
  cases cs
  simpa [ER.cells, CmdD.cells] using e1
end Go.Proofs.Ytebhclgnpnlekaa.EntRd
