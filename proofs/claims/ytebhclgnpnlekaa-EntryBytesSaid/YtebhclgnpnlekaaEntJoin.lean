/- An entry's bytes, as they are put and as they are read: the two forms are one. -/
import Derived.Test.YtebhclgnpnlekaaEnc
import Derived.Test.YtebhclgnpnlekaaEntS
namespace Go.Proofs.Ytebhclgnpnlekaa.Ent
open Go.RowKit Go.Proofs.Ytebhclgnpnlekaa.B Go.Proofs.Ytebhclgnpnlekaa.Cmd Go.Proofs.Ytebhclgnpnlekaa.Oct
def epOf (e : ER) (lf la lw : List CmdD) : EP := ⟨e.c, e.pr, e.lo, e.hi, (e.f.t, lf), e.ab, (e.a.t, la), flagN e.fr, flagN e.dn, (e.v.t, lw)⟩
theorem entBytes_eq (e : ER) (lf la lw : List CmdD) : entBytes e lf la lw = (epOf e lf la lw).bytes [] := by
  simp [entBytes, entParts, EP.bytes, epOf, encs, headNums, nums, List.append_assoc]
theorem flagN_ok (b : Bool) : numOk (flagN b) = true := by cases b <;> decide
theorem epOf_ok {w : World} {e : ER} {lf la lw : List CmdD} (h : EAt w e lf la lw) (hok : okE e lf la lw = true) : (epOf e lf la lw).ok := by
  obtain ⟨h1, h2, h3, h4, h5, h6, h7⟩ := okE_iff.1 hok
  have ht := times_num h1
  exact ⟨h2, okBallot_num h3, ht.1, ht.2, okMust_value h5 h.f.len, okBallot_num h4, okMust_value h6 h.a.len, flagN_ok _, flagN_ok _, okMust_value h7 h.v.len⟩
end Go.Proofs.Ytebhclgnpnlekaa.Ent
