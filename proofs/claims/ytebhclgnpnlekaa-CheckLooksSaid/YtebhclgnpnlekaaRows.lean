/-
  No cell of these rows narrows 'for every input' (looked for: loops, veiled, ifaces, maps, wideKeys, modest, calm, conditions, laid).
  DERIVED. THE GIVEN ROWS OF THIS SEAT. 10 by the template 'for every input the law returns true; each argument reads behind the call as it read before'; 0 by the template 'total and deterministic' (their statements: YtebhclgnpnlekaaTotals.lean).
  GIVEN WITH THE SEED: the statements are not yours to turn. If you find one false, say at which input.
  Laid BY PROGRAM, IN A SANDBOX (cutbox-rows.mjs): the forced cells as the released guide's own fill.sh prints them over the translation 4d208d2476a48eea… (all of the seat's roots in one cut). By AI agents, Wed Nov 11 2026. No macro, syntax, notation, axiom, sorry.
-/
import Derived.Test.YtebhclgnpnlekaaChecked
import GoSem.Claim
import GoSem.ClaimJoined
import GoSem.ClaimMapViews
import Derived.JoinedTies
import Derived.KernelRfl
namespace Go.Proofs.Ytebhclgnpnlekaa
/- THE CELL 'sum', in the pinned program and in every row, IS THE sha256 OF THE DUMP (.gsa) THAT YtebhclgnpnlekaaProg.lean LOADS. Nothing in Lean hashes anything: it is a label: what it is worth is what the hold of that sum in a sandbox is worth. -/
noncomputable def Try.pinned : Pinned := { name := "ytebhclgnpnlekaa", sum := "4d208d2476a48eea0ffaf75597a1353659f289669cae360c2ccdfa73b6decc8c", checked := Try.checked }
namespace Rows
def none {H : Type} : Left H := { results := [], args := [] }

/-- 'lictorlaw04.OctetPuts': WHATEVER THE INPUT: true; the input reads as it did. -/
def octetPutsSpec : ChangeSpec := { name := "octetPuts", fn := fun _ => fun
  | [d1, d2, d3] => { results := [.lit (.bool true)], args := [d1, d2, d3] }
  | _ => none }
def octetPutsRow : OpenClaim := { program := "ytebhclgnpnlekaa", sum := "4d208d2476a48eea0ffaf75597a1353659f289669cae360c2ccdfa73b6decc8c", func := "lictor/lictorlaw04.OctetPuts", spec := "octetPuts", unfollowed := true, recurses := true, apart := false }
def OctetPutsSaid : Prop := octetPutsRow.holds Try.pinned (OpenSpec.ofChange octetPutsSpec)

/-- ITS FALSE NEIGHBOUR: 'it returns false'. Refute it at one input. -/
def octetPutsWrong : ChangeSpec := { name := "octetPuts", fn := fun _ => fun
  | [d1, d2, d3] => { results := [.lit (.bool false)], args := [d1, d2, d3] }
  | _ => none }
def OctetPutsWrongFalsely : Prop := octetPutsRow.holds Try.pinned (OpenSpec.ofChange octetPutsWrong)

/-- 'lictorlaw04.OctetReads': WHATEVER THE INPUT: true; the input reads as it did. -/
def octetReadsSpec : ChangeSpec := { name := "octetReads", fn := fun _ => fun
  | [d1, d2] => { results := [.lit (.bool true)], args := [d1, d2] }
  | _ => none }
def octetReadsRow : OpenClaim := { program := "ytebhclgnpnlekaa", sum := "4d208d2476a48eea0ffaf75597a1353659f289669cae360c2ccdfa73b6decc8c", func := "lictor/lictorlaw04.OctetReads", spec := "octetReads", unfollowed := true, recurses := true, apart := false }
def OctetReadsSaid : Prop := octetReadsRow.holds Try.pinned (OpenSpec.ofChange octetReadsSpec)

/-- ITS FALSE NEIGHBOUR: 'it returns false'. Refute it at one input. -/
def octetReadsWrong : ChangeSpec := { name := "octetReads", fn := fun _ => fun
  | [d1, d2] => { results := [.lit (.bool false)], args := [d1, d2] }
  | _ => none }
def OctetReadsWrongFalsely : Prop := octetReadsRow.holds Try.pinned (OpenSpec.ofChange octetReadsWrong)

/-- 'lictorlaw04.OctetBack': WHATEVER THE INPUT: true; the input reads as it did. -/
def octetBackSpec : ChangeSpec := { name := "octetBack", fn := fun _ => fun
  | [d1, d2, d3] => { results := [.lit (.bool true)], args := [d1, d2, d3] }
  | _ => none }
def octetBackRow : OpenClaim := { program := "ytebhclgnpnlekaa", sum := "4d208d2476a48eea0ffaf75597a1353659f289669cae360c2ccdfa73b6decc8c", func := "lictor/lictorlaw04.OctetBack", spec := "octetBack", unfollowed := true, recurses := true, apart := false }
def OctetBackSaid : Prop := octetBackRow.holds Try.pinned (OpenSpec.ofChange octetBackSpec)

/-- ITS FALSE NEIGHBOUR: 'it returns false'. Refute it at one input. -/
def octetBackWrong : ChangeSpec := { name := "octetBack", fn := fun _ => fun
  | [d1, d2, d3] => { results := [.lit (.bool false)], args := [d1, d2, d3] }
  | _ => none }
def OctetBackWrongFalsely : Prop := octetBackRow.holds Try.pinned (OpenSpec.ofChange octetBackWrong)

/-- 'lictorlaw03.PredsUnion': WHATEVER THE INPUT: true; the input reads as it did. -/
def predsUnionSpec : ChangeSpec := { name := "predsUnion", fn := fun _ => fun
  | [d1, d2] => { results := [.lit (.bool true)], args := [d1, d2] }
  | _ => none }
def predsUnionRow : OpenClaim := { program := "ytebhclgnpnlekaa", sum := "4d208d2476a48eea0ffaf75597a1353659f289669cae360c2ccdfa73b6decc8c", func := "lictor/lictorlaw03.PredsUnion", spec := "predsUnion", unfollowed := true, recurses := true, apart := false }
def PredsUnionSaid : Prop := predsUnionRow.holds Try.pinned (OpenSpec.ofChange predsUnionSpec)

/-- ITS FALSE NEIGHBOUR: 'it returns false'. Refute it at one input. -/
def predsUnionWrong : ChangeSpec := { name := "predsUnion", fn := fun _ => fun
  | [d1, d2] => { results := [.lit (.bool false)], args := [d1, d2] }
  | _ => none }
def PredsUnionWrongFalsely : Prop := predsUnionRow.holds Try.pinned (OpenSpec.ofChange predsUnionWrong)

/-- 'lictorlaw03.PredsTells': WHATEVER THE INPUT: true; the input reads as it did. -/
def predsTellsSpec : ChangeSpec := { name := "predsTells", fn := fun _ => fun
  | [d1, d2, d3] => { results := [.lit (.bool true)], args := [d1, d2, d3] }
  | _ => none }
def predsTellsRow : OpenClaim := { program := "ytebhclgnpnlekaa", sum := "4d208d2476a48eea0ffaf75597a1353659f289669cae360c2ccdfa73b6decc8c", func := "lictor/lictorlaw03.PredsTells", spec := "predsTells", unfollowed := true, recurses := true, apart := false }
def PredsTellsSaid : Prop := predsTellsRow.holds Try.pinned (OpenSpec.ofChange predsTellsSpec)

/-- ITS FALSE NEIGHBOUR: 'it returns false'. Refute it at one input. -/
def predsTellsWrong : ChangeSpec := { name := "predsTells", fn := fun _ => fun
  | [d1, d2, d3] => { results := [.lit (.bool false)], args := [d1, d2, d3] }
  | _ => none }
def PredsTellsWrongFalsely : Prop := predsTellsRow.holds Try.pinned (OpenSpec.ofChange predsTellsWrong)

/-- 'lictorlaw06.EntryMore': WHATEVER THE INPUT: true; the input reads as it did. -/
def entryMoreSpec : ChangeSpec := { name := "entryMore", fn := fun _ => fun
  | [d1, d2] => { results := [.lit (.bool true)], args := [d1, d2] }
  | _ => none }
def entryMoreRow : OpenClaim := { program := "ytebhclgnpnlekaa", sum := "4d208d2476a48eea0ffaf75597a1353659f289669cae360c2ccdfa73b6decc8c", func := "lictor/lictorlaw06.EntryMore", spec := "entryMore", unfollowed := true, recurses := true, apart := false }
def EntryMoreSaid : Prop := entryMoreRow.holds Try.pinned (OpenSpec.ofChange entryMoreSpec)

/-- ITS FALSE NEIGHBOUR: 'it returns false'. Refute it at one input. -/
def entryMoreWrong : ChangeSpec := { name := "entryMore", fn := fun _ => fun
  | [d1, d2] => { results := [.lit (.bool false)], args := [d1, d2] }
  | _ => none }
def EntryMoreWrongFalsely : Prop := entryMoreRow.holds Try.pinned (OpenSpec.ofChange entryMoreWrong)

/-- 'lictorlaw06.EntryBytes': WHATEVER THE INPUT: true; the input reads as it did. -/
def entryBytesSpec : ChangeSpec := { name := "entryBytes", fn := fun _ => fun
  | [d1, d2] => { results := [.lit (.bool true)], args := [d1, d2] }
  | _ => none }
def entryBytesRow : OpenClaim := { program := "ytebhclgnpnlekaa", sum := "4d208d2476a48eea0ffaf75597a1353659f289669cae360c2ccdfa73b6decc8c", func := "lictor/lictorlaw06.EntryBytes", spec := "entryBytes", unfollowed := true, recurses := true, apart := false }
def EntryBytesSaid : Prop := entryBytesRow.holds Try.pinned (OpenSpec.ofChange entryBytesSpec)

/-- ITS FALSE NEIGHBOUR: 'it returns false'. Refute it at one input. -/
def entryBytesWrong : ChangeSpec := { name := "entryBytes", fn := fun _ => fun
  | [d1, d2] => { results := [.lit (.bool false)], args := [d1, d2] }
  | _ => none }
def EntryBytesWrongFalsely : Prop := entryBytesRow.holds Try.pinned (OpenSpec.ofChange entryBytesWrong)

/-- 'lictorlaw17.OrderTells': WHATEVER THE INPUT: true; the input reads as it did. -/
def orderTellsSpec : ChangeSpec := { name := "orderTells", fn := fun _ => fun
  | [d1, d2] => { results := [.lit (.bool true)], args := [d1, d2] }
  | _ => none }
def orderTellsRow : OpenClaim := { program := "ytebhclgnpnlekaa", sum := "4d208d2476a48eea0ffaf75597a1353659f289669cae360c2ccdfa73b6decc8c", func := "lictor/lictorlaw17.OrderTells", spec := "orderTells", unfollowed := true, recurses := true, apart := false }
def OrderTellsSaid : Prop := orderTellsRow.holds Try.pinned (OpenSpec.ofChange orderTellsSpec)

/-- ITS FALSE NEIGHBOUR: 'it returns false'. Refute it at one input. -/
def orderTellsWrong : ChangeSpec := { name := "orderTells", fn := fun _ => fun
  | [d1, d2] => { results := [.lit (.bool false)], args := [d1, d2] }
  | _ => none }
def OrderTellsWrongFalsely : Prop := orderTellsRow.holds Try.pinned (OpenSpec.ofChange orderTellsWrong)

/-- 'lictorlaw17.OrderTimes': WHATEVER THE INPUT: true; the input reads as it did. -/
def orderTimesSpec : ChangeSpec := { name := "orderTimes", fn := fun _ => fun
  | [d1, d2, d3] => { results := [.lit (.bool true)], args := [d1, d2, d3] }
  | _ => none }
def orderTimesRow : OpenClaim := { program := "ytebhclgnpnlekaa", sum := "4d208d2476a48eea0ffaf75597a1353659f289669cae360c2ccdfa73b6decc8c", func := "lictor/lictorlaw17.OrderTimes", spec := "orderTimes", unfollowed := true, recurses := true, apart := false }
def OrderTimesSaid : Prop := orderTimesRow.holds Try.pinned (OpenSpec.ofChange orderTimesSpec)

/-- ITS FALSE NEIGHBOUR: 'it returns false'. Refute it at one input. -/
def orderTimesWrong : ChangeSpec := { name := "orderTimes", fn := fun _ => fun
  | [d1, d2, d3] => { results := [.lit (.bool false)], args := [d1, d2, d3] }
  | _ => none }
def OrderTimesWrongFalsely : Prop := orderTimesRow.holds Try.pinned (OpenSpec.ofChange orderTimesWrong)

/-- 'lictorlaw21.CheckLooks': WHATEVER THE INPUT: true; the input reads as it did. -/
def checkLooksSpec : ChangeSpec := { name := "checkLooks", fn := fun _ => fun
  | [d1, d2] => { results := [.lit (.bool true)], args := [d1, d2] }
  | _ => none }
def checkLooksRow : OpenClaim := { program := "ytebhclgnpnlekaa", sum := "4d208d2476a48eea0ffaf75597a1353659f289669cae360c2ccdfa73b6decc8c", func := "lictor/lictorlaw21.CheckLooks", spec := "checkLooks", unfollowed := true, recurses := true, apart := false }
def CheckLooksSaid : Prop := checkLooksRow.holds Try.pinned (OpenSpec.ofChange checkLooksSpec)

/-- ITS FALSE NEIGHBOUR: 'it returns false'. Refute it at one input. -/
def checkLooksWrong : ChangeSpec := { name := "checkLooks", fn := fun _ => fun
  | [d1, d2] => { results := [.lit (.bool false)], args := [d1, d2] }
  | _ => none }
def CheckLooksWrongFalsely : Prop := checkLooksRow.holds Try.pinned (OpenSpec.ofChange checkLooksWrong)

/- THE SECOND FORM. 'bulk': how many values and letters a reading holds, each counted each time it is reached (what is shared counts as often as it is met; a slice's spare places count too). A statement '..UptoSaid' is the law's where the arguments, and the package variables that the reading takes, are together of bulk at most 1048576: NARROWER than '..Said'. Prove '..Said' where nothing that the law and all that it calls make is longer than what came in: it says more and counts as full. Else prove '..UptoSaid'. A law counts once. -/
mutual
def uptoBulk {H : Type} : DataW H → Nat
  | .lit (.string bytes) => bytes.length + 1
  | .lit _ => 1
  | .nil => 1
  | .ptr d => uptoBulk d + 1
  | .slice elems spare => uptoBulkAll elems + uptoBulkAll spare + 1
  | .agg parts => uptoBulkAll parts + 1
  | .iface _ d => uptoBulk d + 1
  | .map entries => uptoBulkEntries entries + 1
  | .held _ => 1
def uptoBulkAll {H : Type} : List (DataW H) → Nat
  | [] => 0
  | d :: r => uptoBulk d + uptoBulkAll r
def uptoBulkEntries {H : Type} : List (Lit × DataW H) → Nat
  | [] => 0
  | x :: r => uptoBulkEntry x + uptoBulkEntries r
def uptoBulkEntry {H : Type} : Lit × DataW H → Nat
  | (.string bytes, d) => bytes.length + uptoBulk d + 1
  | (_, d) => uptoBulk d + 1
 end
def uptoSmall : (H : Type) → List (DataW H) → Bool := fun _ ds => decide (uptoBulkAll ds ≤ 1048576)
def OpenSpec.upto (s : _root_.Go.ChangeSpec) : _root_.Go.OpenSpec := { _root_.Go.OpenSpec.ofChange s with cond := some uptoSmall }

/-- 'lictorlaw04.OctetPuts', WHERE WHAT IT READS IS OF BULK AT MOST 1048576: true; the input reads as it did. -/
def octetPutsUptoRow : OpenClaim := { program := "ytebhclgnpnlekaa", sum := "4d208d2476a48eea0ffaf75597a1353659f289669cae360c2ccdfa73b6decc8c", func := "lictor/lictorlaw04.OctetPuts", spec := "octetPuts", unfollowed := true, recurses := true, apart := false, narrowed := true }
def OctetPutsUptoSaid : Prop := octetPutsUptoRow.holds Try.pinned (OpenSpec.upto octetPutsSpec)

/-- 'lictorlaw04.OctetReads', WHERE WHAT IT READS IS OF BULK AT MOST 1048576: true; the input reads as it did. -/
def octetReadsUptoRow : OpenClaim := { program := "ytebhclgnpnlekaa", sum := "4d208d2476a48eea0ffaf75597a1353659f289669cae360c2ccdfa73b6decc8c", func := "lictor/lictorlaw04.OctetReads", spec := "octetReads", unfollowed := true, recurses := true, apart := false, narrowed := true }
def OctetReadsUptoSaid : Prop := octetReadsUptoRow.holds Try.pinned (OpenSpec.upto octetReadsSpec)

/-- 'lictorlaw04.OctetBack', WHERE WHAT IT READS IS OF BULK AT MOST 1048576: true; the input reads as it did. -/
def octetBackUptoRow : OpenClaim := { program := "ytebhclgnpnlekaa", sum := "4d208d2476a48eea0ffaf75597a1353659f289669cae360c2ccdfa73b6decc8c", func := "lictor/lictorlaw04.OctetBack", spec := "octetBack", unfollowed := true, recurses := true, apart := false, narrowed := true }
def OctetBackUptoSaid : Prop := octetBackUptoRow.holds Try.pinned (OpenSpec.upto octetBackSpec)

/-- 'lictorlaw03.PredsUnion', WHERE WHAT IT READS IS OF BULK AT MOST 1048576: true; the input reads as it did. -/
def predsUnionUptoRow : OpenClaim := { program := "ytebhclgnpnlekaa", sum := "4d208d2476a48eea0ffaf75597a1353659f289669cae360c2ccdfa73b6decc8c", func := "lictor/lictorlaw03.PredsUnion", spec := "predsUnion", unfollowed := true, recurses := true, apart := false, narrowed := true }
def PredsUnionUptoSaid : Prop := predsUnionUptoRow.holds Try.pinned (OpenSpec.upto predsUnionSpec)

/-- 'lictorlaw03.PredsTells', WHERE WHAT IT READS IS OF BULK AT MOST 1048576: true; the input reads as it did. -/
def predsTellsUptoRow : OpenClaim := { program := "ytebhclgnpnlekaa", sum := "4d208d2476a48eea0ffaf75597a1353659f289669cae360c2ccdfa73b6decc8c", func := "lictor/lictorlaw03.PredsTells", spec := "predsTells", unfollowed := true, recurses := true, apart := false, narrowed := true }
def PredsTellsUptoSaid : Prop := predsTellsUptoRow.holds Try.pinned (OpenSpec.upto predsTellsSpec)

/-- 'lictorlaw06.EntryMore', WHERE WHAT IT READS IS OF BULK AT MOST 1048576: true; the input reads as it did. -/
def entryMoreUptoRow : OpenClaim := { program := "ytebhclgnpnlekaa", sum := "4d208d2476a48eea0ffaf75597a1353659f289669cae360c2ccdfa73b6decc8c", func := "lictor/lictorlaw06.EntryMore", spec := "entryMore", unfollowed := true, recurses := true, apart := false, narrowed := true }
def EntryMoreUptoSaid : Prop := entryMoreUptoRow.holds Try.pinned (OpenSpec.upto entryMoreSpec)

/-- 'lictorlaw06.EntryBytes', WHERE WHAT IT READS IS OF BULK AT MOST 1048576: true; the input reads as it did. -/
def entryBytesUptoRow : OpenClaim := { program := "ytebhclgnpnlekaa", sum := "4d208d2476a48eea0ffaf75597a1353659f289669cae360c2ccdfa73b6decc8c", func := "lictor/lictorlaw06.EntryBytes", spec := "entryBytes", unfollowed := true, recurses := true, apart := false, narrowed := true }
def EntryBytesUptoSaid : Prop := entryBytesUptoRow.holds Try.pinned (OpenSpec.upto entryBytesSpec)

/-- 'lictorlaw17.OrderTells', WHERE WHAT IT READS IS OF BULK AT MOST 1048576: true; the input reads as it did. -/
def orderTellsUptoRow : OpenClaim := { program := "ytebhclgnpnlekaa", sum := "4d208d2476a48eea0ffaf75597a1353659f289669cae360c2ccdfa73b6decc8c", func := "lictor/lictorlaw17.OrderTells", spec := "orderTells", unfollowed := true, recurses := true, apart := false, narrowed := true }
def OrderTellsUptoSaid : Prop := orderTellsUptoRow.holds Try.pinned (OpenSpec.upto orderTellsSpec)

/-- 'lictorlaw17.OrderTimes', WHERE WHAT IT READS IS OF BULK AT MOST 1048576: true; the input reads as it did. -/
def orderTimesUptoRow : OpenClaim := { program := "ytebhclgnpnlekaa", sum := "4d208d2476a48eea0ffaf75597a1353659f289669cae360c2ccdfa73b6decc8c", func := "lictor/lictorlaw17.OrderTimes", spec := "orderTimes", unfollowed := true, recurses := true, apart := false, narrowed := true }
def OrderTimesUptoSaid : Prop := orderTimesUptoRow.holds Try.pinned (OpenSpec.upto orderTimesSpec)

/-- 'lictorlaw21.CheckLooks', WHERE WHAT IT READS IS OF BULK AT MOST 1048576: true; the input reads as it did. -/
def checkLooksUptoRow : OpenClaim := { program := "ytebhclgnpnlekaa", sum := "4d208d2476a48eea0ffaf75597a1353659f289669cae360c2ccdfa73b6decc8c", func := "lictor/lictorlaw21.CheckLooks", spec := "checkLooks", unfollowed := true, recurses := true, apart := false, narrowed := true }
def CheckLooksUptoSaid : Prop := checkLooksUptoRow.holds Try.pinned (OpenSpec.upto checkLooksSpec)

end Rows
end Go.Proofs.Ytebhclgnpnlekaa
