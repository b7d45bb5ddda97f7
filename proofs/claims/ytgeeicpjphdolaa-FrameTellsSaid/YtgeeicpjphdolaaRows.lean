/-
  No cell of these rows narrows 'for every input' (looked for: loops, veiled, ifaces, maps, wideKeys, modest, calm, conditions, laid).
  DERIVED. THE GIVEN ROWS OF THIS SEAT. 12 by the template 'for every input the law returns true; each argument reads behind the call as it read before'; 0 by the template 'total and deterministic' (their statements: YtgeeicpjphdolaaTotals.lean).
  GIVEN WITH THE SEED: the statements are not yours to turn. If you find one false, say at which input.
  Laid BY PROGRAM, IN A SANDBOX (cutbox-rows.mjs): the forced cells as the released guide's own fill.sh prints them over the translation 64d391e347afef74… (all of the seat's roots in one cut). By AI agents, Wed Nov 11 2026. No macro, syntax, notation, axiom, sorry.
-/
import Derived.Test.YtgeeicpjphdolaaChecked
import GoSem.Claim
import GoSem.ClaimJoined
import GoSem.ClaimMapViews
import Derived.JoinedTies
import Derived.KernelRfl
namespace Go.Proofs.Ytgeeicpjphdolaa
/- THE CELL 'sum', in the pinned program and in every row, IS THE sha256 OF THE DUMP (.gsa) THAT YtgeeicpjphdolaaProg.lean LOADS. Nothing in Lean hashes anything: it is a label: what it is worth is what the hold of that sum in a sandbox is worth. -/
noncomputable def Try.pinned : Pinned := { name := "ytgeeicpjphdolaa", sum := "64d391e347afef74397c9e6d0a398d10e3e09fe389022578cb7271d5e05f447e", checked := Try.checked }
namespace Rows
def none {H : Type} : Left H := { results := [], args := [] }

/-- 'lictorlaw07.FrameTells': WHATEVER THE INPUT: true; the input reads as it did. -/
def frameTellsSpec : ChangeSpec := { name := "frameTells", fn := fun _ => fun
  | [d1, d2] => { results := [.lit (.bool true)], args := [d1, d2] }
  | _ => none }
def frameTellsRow : OpenClaim := { program := "ytgeeicpjphdolaa", sum := "64d391e347afef74397c9e6d0a398d10e3e09fe389022578cb7271d5e05f447e", func := "lictor/lictorlaw07.FrameTells", spec := "frameTells", apart := false }
def FrameTellsSaid : Prop := frameTellsRow.holds Try.pinned (OpenSpec.ofChange frameTellsSpec)

/-- ITS FALSE NEIGHBOUR: 'it returns false'. Refute it at one input. -/
def frameTellsWrong : ChangeSpec := { name := "frameTells", fn := fun _ => fun
  | [d1, d2] => { results := [.lit (.bool false)], args := [d1, d2] }
  | _ => none }
def FrameTellsWrongFalsely : Prop := frameTellsRow.holds Try.pinned (OpenSpec.ofChange frameTellsWrong)

/-- 'lictorlaw07.FrameTorn': WHATEVER THE INPUT: true; the input reads as it did. -/
def frameTornSpec : ChangeSpec := { name := "frameTorn", fn := fun _ => fun
  | [d1, d2] => { results := [.lit (.bool true)], args := [d1, d2] }
  | _ => none }
def frameTornRow : OpenClaim := { program := "ytgeeicpjphdolaa", sum := "64d391e347afef74397c9e6d0a398d10e3e09fe389022578cb7271d5e05f447e", func := "lictor/lictorlaw07.FrameTorn", spec := "frameTorn", apart := false }
def FrameTornSaid : Prop := frameTornRow.holds Try.pinned (OpenSpec.ofChange frameTornSpec)

/-- ITS FALSE NEIGHBOUR: 'it returns false'. Refute it at one input. -/
def frameTornWrong : ChangeSpec := { name := "frameTorn", fn := fun _ => fun
  | [d1, d2] => { results := [.lit (.bool false)], args := [d1, d2] }
  | _ => none }
def FrameTornWrongFalsely : Prop := frameTornRow.holds Try.pinned (OpenSpec.ofChange frameTornWrong)

/-- 'lictorlaw07.FrameTurned': WHATEVER THE INPUT: true; the input reads as it did. -/
def frameTurnedSpec : ChangeSpec := { name := "frameTurned", fn := fun _ => fun
  | [d1, d2, d3] => { results := [.lit (.bool true)], args := [d1, d2, d3] }
  | _ => none }
def frameTurnedRow : OpenClaim := { program := "ytgeeicpjphdolaa", sum := "64d391e347afef74397c9e6d0a398d10e3e09fe389022578cb7271d5e05f447e", func := "lictor/lictorlaw07.FrameTurned", spec := "frameTurned", apart := false }
def FrameTurnedSaid : Prop := frameTurnedRow.holds Try.pinned (OpenSpec.ofChange frameTurnedSpec)

/-- ITS FALSE NEIGHBOUR: 'it returns false'. Refute it at one input. -/
def frameTurnedWrong : ChangeSpec := { name := "frameTurned", fn := fun _ => fun
  | [d1, d2, d3] => { results := [.lit (.bool false)], args := [d1, d2, d3] }
  | _ => none }
def FrameTurnedWrongFalsely : Prop := frameTurnedRow.holds Try.pinned (OpenSpec.ofChange frameTurnedWrong)

/-- 'lictorlaw08.DiskSafe': WHATEVER THE INPUT: true; the input reads as it did. -/
def diskSafeSpec : ChangeSpec := { name := "diskSafe", fn := fun _ => fun
  | [d1, d2] => { results := [.lit (.bool true)], args := [d1, d2] }
  | _ => none }
def diskSafeRow : OpenClaim := { program := "ytgeeicpjphdolaa", sum := "64d391e347afef74397c9e6d0a398d10e3e09fe389022578cb7271d5e05f447e", func := "lictor/lictorlaw08.DiskSafe", spec := "diskSafe", apart := false }
def DiskSafeSaid : Prop := diskSafeRow.holds Try.pinned (OpenSpec.ofChange diskSafeSpec)

/-- ITS FALSE NEIGHBOUR: 'it returns false'. Refute it at one input. -/
def diskSafeWrong : ChangeSpec := { name := "diskSafe", fn := fun _ => fun
  | [d1, d2] => { results := [.lit (.bool false)], args := [d1, d2] }
  | _ => none }
def DiskSafeWrongFalsely : Prop := diskSafeRow.holds Try.pinned (OpenSpec.ofChange diskSafeWrong)

/-- 'lictorlaw08.DiskPlays': WHATEVER THE INPUT: true; the input reads as it did. -/
def diskPlaysSpec : ChangeSpec := { name := "diskPlays", fn := fun _ => fun
  | [d1, d2] => { results := [.lit (.bool true)], args := [d1, d2] }
  | _ => none }
def diskPlaysRow : OpenClaim := { program := "ytgeeicpjphdolaa", sum := "64d391e347afef74397c9e6d0a398d10e3e09fe389022578cb7271d5e05f447e", func := "lictor/lictorlaw08.DiskPlays", spec := "diskPlays", apart := false }
def DiskPlaysSaid : Prop := diskPlaysRow.holds Try.pinned (OpenSpec.ofChange diskPlaysSpec)

/-- ITS FALSE NEIGHBOUR: 'it returns false'. Refute it at one input. -/
def diskPlaysWrong : ChangeSpec := { name := "diskPlays", fn := fun _ => fun
  | [d1, d2] => { results := [.lit (.bool false)], args := [d1, d2] }
  | _ => none }
def DiskPlaysWrongFalsely : Prop := diskPlaysRow.holds Try.pinned (OpenSpec.ofChange diskPlaysWrong)

/-- 'lictorlaw01.StampQuorums': WHATEVER THE INPUT: true; the input reads as it did. -/
def stampQuorumsSpec : ChangeSpec := { name := "stampQuorums", fn := fun _ => fun
  | [d1, d2] => { results := [.lit (.bool true)], args := [d1, d2] }
  | _ => none }
def stampQuorumsRow : OpenClaim := { program := "ytgeeicpjphdolaa", sum := "64d391e347afef74397c9e6d0a398d10e3e09fe389022578cb7271d5e05f447e", func := "lictor/lictorlaw01.StampQuorums", spec := "stampQuorums", apart := false }
def StampQuorumsSaid : Prop := stampQuorumsRow.holds Try.pinned (OpenSpec.ofChange stampQuorumsSpec)

/-- ITS FALSE NEIGHBOUR: 'it returns false'. Refute it at one input. -/
def stampQuorumsWrong : ChangeSpec := { name := "stampQuorums", fn := fun _ => fun
  | [d1, d2] => { results := [.lit (.bool false)], args := [d1, d2] }
  | _ => none }
def StampQuorumsWrongFalsely : Prop := stampQuorumsRow.holds Try.pinned (OpenSpec.ofChange stampQuorumsWrong)

/-- 'lictorlaw01.StampTells': WHATEVER THE INPUT: true; the input reads as it did. -/
def stampTellsSpec : ChangeSpec := { name := "stampTells", fn := fun _ => fun
  | [d1, d2, d3] => { results := [.lit (.bool true)], args := [d1, d2, d3] }
  | _ => none }
def stampTellsRow : OpenClaim := { program := "ytgeeicpjphdolaa", sum := "64d391e347afef74397c9e6d0a398d10e3e09fe389022578cb7271d5e05f447e", func := "lictor/lictorlaw01.StampTells", spec := "stampTells", apart := false }
def StampTellsSaid : Prop := stampTellsRow.holds Try.pinned (OpenSpec.ofChange stampTellsSpec)

/-- ITS FALSE NEIGHBOUR: 'it returns false'. Refute it at one input. -/
def stampTellsWrong : ChangeSpec := { name := "stampTells", fn := fun _ => fun
  | [d1, d2, d3] => { results := [.lit (.bool false)], args := [d1, d2, d3] }
  | _ => none }
def StampTellsWrongFalsely : Prop := stampTellsRow.holds Try.pinned (OpenSpec.ofChange stampTellsWrong)

/-- 'lictorlaw01.StampBallots': WHATEVER THE INPUT: true; the input reads as it did. -/
def stampBallotsSpec : ChangeSpec := { name := "stampBallots", fn := fun _ => fun
  | [d1, d2, d3] => { results := [.lit (.bool true)], args := [d1, d2, d3] }
  | _ => none }
def stampBallotsRow : OpenClaim := { program := "ytgeeicpjphdolaa", sum := "64d391e347afef74397c9e6d0a398d10e3e09fe389022578cb7271d5e05f447e", func := "lictor/lictorlaw01.StampBallots", spec := "stampBallots", apart := false }
def StampBallotsSaid : Prop := stampBallotsRow.holds Try.pinned (OpenSpec.ofChange stampBallotsSpec)

/-- ITS FALSE NEIGHBOUR: 'it returns false'. Refute it at one input. -/
def stampBallotsWrong : ChangeSpec := { name := "stampBallots", fn := fun _ => fun
  | [d1, d2, d3] => { results := [.lit (.bool false)], args := [d1, d2, d3] }
  | _ => none }
def StampBallotsWrongFalsely : Prop := stampBallotsRow.holds Try.pinned (OpenSpec.ofChange stampBallotsWrong)

/-- 'lictorlaw01.StampMeet': WHATEVER THE INPUT: true; the input reads as it did. -/
def stampMeetSpec : ChangeSpec := { name := "stampMeet", fn := fun _ => fun
  | [d1, d2] => { results := [.lit (.bool true)], args := [d1, d2] }
  | _ => none }
def stampMeetRow : OpenClaim := { program := "ytgeeicpjphdolaa", sum := "64d391e347afef74397c9e6d0a398d10e3e09fe389022578cb7271d5e05f447e", func := "lictor/lictorlaw01.StampMeet", spec := "stampMeet", apart := false }
def StampMeetSaid : Prop := stampMeetRow.holds Try.pinned (OpenSpec.ofChange stampMeetSpec)

/-- ITS FALSE NEIGHBOUR: 'it returns false'. Refute it at one input. -/
def stampMeetWrong : ChangeSpec := { name := "stampMeet", fn := fun _ => fun
  | [d1, d2] => { results := [.lit (.bool false)], args := [d1, d2] }
  | _ => none }
def StampMeetWrongFalsely : Prop := stampMeetRow.holds Try.pinned (OpenSpec.ofChange stampMeetWrong)

/-- 'lictorlaw01.StampNew': WHATEVER THE INPUT: true; the input reads as it did. -/
def stampNewSpec : ChangeSpec := { name := "stampNew", fn := fun _ => fun
  | [d1, d2, d3] => { results := [.lit (.bool true)], args := [d1, d2, d3] }
  | _ => none }
def stampNewRow : OpenClaim := { program := "ytgeeicpjphdolaa", sum := "64d391e347afef74397c9e6d0a398d10e3e09fe389022578cb7271d5e05f447e", func := "lictor/lictorlaw01.StampNew", spec := "stampNew", apart := false }
def StampNewSaid : Prop := stampNewRow.holds Try.pinned (OpenSpec.ofChange stampNewSpec)

/-- ITS FALSE NEIGHBOUR: 'it returns false'. Refute it at one input. -/
def stampNewWrong : ChangeSpec := { name := "stampNew", fn := fun _ => fun
  | [d1, d2, d3] => { results := [.lit (.bool false)], args := [d1, d2, d3] }
  | _ => none }
def StampNewWrongFalsely : Prop := stampNewRow.holds Try.pinned (OpenSpec.ofChange stampNewWrong)

/-- 'lictorlaw10.NetPlays': WHATEVER THE INPUT: true; the input reads as it did. -/
def netPlaysSpec : ChangeSpec := { name := "netPlays", fn := fun _ => fun
  | [d1, d2] => { results := [.lit (.bool true)], args := [d1, d2] }
  | _ => none }
def netPlaysRow : OpenClaim := { program := "ytgeeicpjphdolaa", sum := "64d391e347afef74397c9e6d0a398d10e3e09fe389022578cb7271d5e05f447e", func := "lictor/lictorlaw10.NetPlays", spec := "netPlays", apart := false }
def NetPlaysSaid : Prop := netPlaysRow.holds Try.pinned (OpenSpec.ofChange netPlaysSpec)

/-- ITS FALSE NEIGHBOUR: 'it returns false'. Refute it at one input. -/
def netPlaysWrong : ChangeSpec := { name := "netPlays", fn := fun _ => fun
  | [d1, d2] => { results := [.lit (.bool false)], args := [d1, d2] }
  | _ => none }
def NetPlaysWrongFalsely : Prop := netPlaysRow.holds Try.pinned (OpenSpec.ofChange netPlaysWrong)

/-- 'lictorlaw10.NetCounts': WHATEVER THE INPUT: true; the input reads as it did. -/
def netCountsSpec : ChangeSpec := { name := "netCounts", fn := fun _ => fun
  | [d] => { results := [.lit (.bool true)], args := [d] }
  | _ => none }
def netCountsRow : OpenClaim := { program := "ytgeeicpjphdolaa", sum := "64d391e347afef74397c9e6d0a398d10e3e09fe389022578cb7271d5e05f447e", func := "lictor/lictorlaw10.NetCounts", spec := "netCounts", apart := false }
def NetCountsSaid : Prop := netCountsRow.holds Try.pinned (OpenSpec.ofChange netCountsSpec)

/-- ITS FALSE NEIGHBOUR: 'it returns false'. Refute it at one input. -/
def netCountsWrong : ChangeSpec := { name := "netCounts", fn := fun _ => fun
  | [d] => { results := [.lit (.bool false)], args := [d] }
  | _ => none }
def NetCountsWrongFalsely : Prop := netCountsRow.holds Try.pinned (OpenSpec.ofChange netCountsWrong)

/- THE SECOND FORM. 'bulk': how many values and letters a reading holds, each counted each time it is reached (what is shared counts as often as it is met; a slice's spare places count too). A statement '..UptoSaid' is the law's where the arguments, and the package variables that the reading takes, are together of bulk at most 1048576: NARROWER than '..Said'. Prove '..Said' where nothing that the law and all that it calls make is longer than what came in: it says more and counts as full. Else prove '..UptoSaid'. A law counts once. -/
mutual
def uptoBulk {H : Type} : DataW H → Nat
  | .lit (.string bytes) => bytes.length + 1
  | .lit _ => 1
  | .nil => 1
  | .ptr d => uptoBulk d + 1
  | .slice elems spare => uptoBulkAll elems + uptoBulkAll spare + 1
  | .agg parts => uptoBulkAll parts + 1
  | .iface _ d => uptoBulk d + 1
  | .map entries => uptoBulkEntries entries + 1
  | .held _ => 1
def uptoBulkAll {H : Type} : List (DataW H) → Nat
  | [] => 0
  | d :: r => uptoBulk d + uptoBulkAll r
def uptoBulkEntries {H : Type} : List (Lit × DataW H) → Nat
  | [] => 0
  | x :: r => uptoBulkEntry x + uptoBulkEntries r
def uptoBulkEntry {H : Type} : Lit × DataW H → Nat
  | (.string bytes, d) => bytes.length + uptoBulk d + 1
  | (_, d) => uptoBulk d + 1
 end
def uptoSmall : (H : Type) → List (DataW H) → Bool := fun _ ds => decide (uptoBulkAll ds ≤ 1048576)
def OpenSpec.upto (s : _root_.Go.ChangeSpec) : _root_.Go.OpenSpec := { _root_.Go.OpenSpec.ofChange s with cond := some uptoSmall }

/-- 'lictorlaw07.FrameTells', WHERE WHAT IT READS IS OF BULK AT MOST 1048576: true; the input reads as it did. -/
def frameTellsUptoRow : OpenClaim := { program := "ytgeeicpjphdolaa", sum := "64d391e347afef74397c9e6d0a398d10e3e09fe389022578cb7271d5e05f447e", func := "lictor/lictorlaw07.FrameTells", spec := "frameTells", apart := false, narrowed := true }
def FrameTellsUptoSaid : Prop := frameTellsUptoRow.holds Try.pinned (OpenSpec.upto frameTellsSpec)

/-- 'lictorlaw07.FrameTorn', WHERE WHAT IT READS IS OF BULK AT MOST 1048576: true; the input reads as it did. -/
def frameTornUptoRow : OpenClaim := { program := "ytgeeicpjphdolaa", sum := "64d391e347afef74397c9e6d0a398d10e3e09fe389022578cb7271d5e05f447e", func := "lictor/lictorlaw07.FrameTorn", spec := "frameTorn", apart := false, narrowed := true }
def FrameTornUptoSaid : Prop := frameTornUptoRow.holds Try.pinned (OpenSpec.upto frameTornSpec)

/-- 'lictorlaw07.FrameTurned', WHERE WHAT IT READS IS OF BULK AT MOST 1048576: true; the input reads as it did. -/
def frameTurnedUptoRow : OpenClaim := { program := "ytgeeicpjphdolaa", sum := "64d391e347afef74397c9e6d0a398d10e3e09fe389022578cb7271d5e05f447e", func := "lictor/lictorlaw07.FrameTurned", spec := "frameTurned", apart := false, narrowed := true }
def FrameTurnedUptoSaid : Prop := frameTurnedUptoRow.holds Try.pinned (OpenSpec.upto frameTurnedSpec)

/-- 'lictorlaw08.DiskSafe', WHERE WHAT IT READS IS OF BULK AT MOST 1048576: true; the input reads as it did. -/
def diskSafeUptoRow : OpenClaim := { program := "ytgeeicpjphdolaa", sum := "64d391e347afef74397c9e6d0a398d10e3e09fe389022578cb7271d5e05f447e", func := "lictor/lictorlaw08.DiskSafe", spec := "diskSafe", apart := false, narrowed := true }
def DiskSafeUptoSaid : Prop := diskSafeUptoRow.holds Try.pinned (OpenSpec.upto diskSafeSpec)

/-- 'lictorlaw08.DiskPlays', WHERE WHAT IT READS IS OF BULK AT MOST 1048576: true; the input reads as it did. -/
def diskPlaysUptoRow : OpenClaim := { program := "ytgeeicpjphdolaa", sum := "64d391e347afef74397c9e6d0a398d10e3e09fe389022578cb7271d5e05f447e", func := "lictor/lictorlaw08.DiskPlays", spec := "diskPlays", apart := false, narrowed := true }
def DiskPlaysUptoSaid : Prop := diskPlaysUptoRow.holds Try.pinned (OpenSpec.upto diskPlaysSpec)

/-- 'lictorlaw01.StampQuorums', WHERE WHAT IT READS IS OF BULK AT MOST 1048576: true; the input reads as it did. -/
def stampQuorumsUptoRow : OpenClaim := { program := "ytgeeicpjphdolaa", sum := "64d391e347afef74397c9e6d0a398d10e3e09fe389022578cb7271d5e05f447e", func := "lictor/lictorlaw01.StampQuorums", spec := "stampQuorums", apart := false, narrowed := true }
def StampQuorumsUptoSaid : Prop := stampQuorumsUptoRow.holds Try.pinned (OpenSpec.upto stampQuorumsSpec)

/-- 'lictorlaw01.StampTells', WHERE WHAT IT READS IS OF BULK AT MOST 1048576: true; the input reads as it did. -/
def stampTellsUptoRow : OpenClaim := { program := "ytgeeicpjphdolaa", sum := "64d391e347afef74397c9e6d0a398d10e3e09fe389022578cb7271d5e05f447e", func := "lictor/lictorlaw01.StampTells", spec := "stampTells", apart := false, narrowed := true }
def StampTellsUptoSaid : Prop := stampTellsUptoRow.holds Try.pinned (OpenSpec.upto stampTellsSpec)

/-- 'lictorlaw01.StampBallots', WHERE WHAT IT READS IS OF BULK AT MOST 1048576: true; the input reads as it did. -/
def stampBallotsUptoRow : OpenClaim := { program := "ytgeeicpjphdolaa", sum := "64d391e347afef74397c9e6d0a398d10e3e09fe389022578cb7271d5e05f447e", func := "lictor/lictorlaw01.StampBallots", spec := "stampBallots", apart := false, narrowed := true }
def StampBallotsUptoSaid : Prop := stampBallotsUptoRow.holds Try.pinned (OpenSpec.upto stampBallotsSpec)

/-- 'lictorlaw01.StampMeet', WHERE WHAT IT READS IS OF BULK AT MOST 1048576: true; the input reads as it did. -/
def stampMeetUptoRow : OpenClaim := { program := "ytgeeicpjphdolaa", sum := "64d391e347afef74397c9e6d0a398d10e3e09fe389022578cb7271d5e05f447e", func := "lictor/lictorlaw01.StampMeet", spec := "stampMeet", apart := false, narrowed := true }
def StampMeetUptoSaid : Prop := stampMeetUptoRow.holds Try.pinned (OpenSpec.upto stampMeetSpec)

/-- 'lictorlaw01.StampNew', WHERE WHAT IT READS IS OF BULK AT MOST 1048576: true; the input reads as it did. -/
def stampNewUptoRow : OpenClaim := { program := "ytgeeicpjphdolaa", sum := "64d391e347afef74397c9e6d0a398d10e3e09fe389022578cb7271d5e05f447e", func := "lictor/lictorlaw01.StampNew", spec := "stampNew", apart := false, narrowed := true }
def StampNewUptoSaid : Prop := stampNewUptoRow.holds Try.pinned (OpenSpec.upto stampNewSpec)

/-- 'lictorlaw10.NetPlays', WHERE WHAT IT READS IS OF BULK AT MOST 1048576: true; the input reads as it did. -/
def netPlaysUptoRow : OpenClaim := { program := "ytgeeicpjphdolaa", sum := "64d391e347afef74397c9e6d0a398d10e3e09fe389022578cb7271d5e05f447e", func := "lictor/lictorlaw10.NetPlays", spec := "netPlays", apart := false, narrowed := true }
def NetPlaysUptoSaid : Prop := netPlaysUptoRow.holds Try.pinned (OpenSpec.upto netPlaysSpec)

/-- 'lictorlaw10.NetCounts', WHERE WHAT IT READS IS OF BULK AT MOST 1048576: true; the input reads as it did. -/
def netCountsUptoRow : OpenClaim := { program := "ytgeeicpjphdolaa", sum := "64d391e347afef74397c9e6d0a398d10e3e09fe389022578cb7271d5e05f447e", func := "lictor/lictorlaw10.NetCounts", spec := "netCounts", apart := false, narrowed := true }
def NetCountsUptoSaid : Prop := netCountsUptoRow.holds Try.pinned (OpenSpec.upto netCountsSpec)

end Rows
end Go.Proofs.Ytgeeicpjphdolaa
