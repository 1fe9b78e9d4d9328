/-
  No cell of these rows narrows 'for every input' (looked for: loops, veiled, ifaces, maps, wideKeys, modest, calm, conditions, laid).
  DERIVED. THE GIVEN ROWS OF THIS SEAT. 18 by the template 'for every input the law returns true; each argument reads behind the call as it read before'; 0 by the template 'total and deterministic' (their statements: YtmfidfaiopogbaaTotals.lean).
  GIVEN WITH THE SEED: the statements are not yours to turn. If you find one false, say at which input.
  Laid BY PROGRAM, IN A SANDBOX (cutbox-rows.mjs): the forced cells as the released guide's own fill.sh prints them over the translation 18854e81e8062e36… (all of the seat's roots in one cut). By AI agents, Wed Nov 11 2026. No macro, syntax, notation, axiom, sorry.
-/
import Derived.Test.YtmfidfaiopogbaaChecked
import GoSem.Claim
import GoSem.ClaimJoined
import GoSem.ClaimMapViews
import Derived.JoinedTies
import Derived.KernelRfl
namespace Go.Proofs.Ytmfidfaiopogbaa
/- THE CELL 'sum', in the pinned program and in every row, IS THE sha256 OF THE DUMP (.gsa) THAT YtmfidfaiopogbaaProg.lean LOADS. Nothing in Lean hashes anything: it is a label: what it is worth is what the hold of that sum in a sandbox is worth. -/
noncomputable def Try.pinned : Pinned := { name := "ytmfidfaiopogbaa", sum := "18854e81e8062e364b097b91844eb8370990725aa99fd6346f01eb6ed47dae8d", checked := Try.checked }
namespace Rows
def none {H : Type} : Left H := { results := [], args := [] }

/-- 'bramblelaw18.DiskPlays': WHATEVER THE INPUT: true; the input reads as it did. -/
def diskPlaysSpec : ChangeSpec := { name := "diskPlays", fn := fun _ => fun
  | [d] => { results := [.lit (.bool true)], args := [d] }
  | _ => none }
def diskPlaysRow : OpenClaim := { program := "ytmfidfaiopogbaa", sum := "18854e81e8062e364b097b91844eb8370990725aa99fd6346f01eb6ed47dae8d", func := "bramble/bramblelaw18.DiskPlays", spec := "diskPlays", apart := false }
def DiskPlaysSaid : Prop := diskPlaysRow.holds Try.pinned (OpenSpec.ofChange diskPlaysSpec)

/-- ITS FALSE NEIGHBOUR: 'it returns false'. Refute it at one input. -/
def diskPlaysWrong : ChangeSpec := { name := "diskPlays", fn := fun _ => fun
  | [d] => { results := [.lit (.bool false)], args := [d] }
  | _ => none }
def DiskPlaysWrongFalsely : Prop := diskPlaysRow.holds Try.pinned (OpenSpec.ofChange diskPlaysWrong)

/-- 'bramblelaw18.DiskCrashes': WHATEVER THE INPUT: true; the input reads as it did. -/
def diskCrashesSpec : ChangeSpec := { name := "diskCrashes", fn := fun _ => fun
  | [d1, d2] => { results := [.lit (.bool true)], args := [d1, d2] }
  | _ => none }
def diskCrashesRow : OpenClaim := { program := "ytmfidfaiopogbaa", sum := "18854e81e8062e364b097b91844eb8370990725aa99fd6346f01eb6ed47dae8d", func := "bramble/bramblelaw18.DiskCrashes", spec := "diskCrashes", apart := false }
def DiskCrashesSaid : Prop := diskCrashesRow.holds Try.pinned (OpenSpec.ofChange diskCrashesSpec)

/-- ITS FALSE NEIGHBOUR: 'it returns false'. Refute it at one input. -/
def diskCrashesWrong : ChangeSpec := { name := "diskCrashes", fn := fun _ => fun
  | [d1, d2] => { results := [.lit (.bool false)], args := [d1, d2] }
  | _ => none }
def DiskCrashesWrongFalsely : Prop := diskCrashesRow.holds Try.pinned (OpenSpec.ofChange diskCrashesWrong)

/-- 'bramblelaw18.DiskSyncs': WHATEVER THE INPUT: true; the input reads as it did. -/
def diskSyncsSpec : ChangeSpec := { name := "diskSyncs", fn := fun _ => fun
  | [d1, d2] => { results := [.lit (.bool true)], args := [d1, d2] }
  | _ => none }
def diskSyncsRow : OpenClaim := { program := "ytmfidfaiopogbaa", sum := "18854e81e8062e364b097b91844eb8370990725aa99fd6346f01eb6ed47dae8d", func := "bramble/bramblelaw18.DiskSyncs", spec := "diskSyncs", apart := false }
def DiskSyncsSaid : Prop := diskSyncsRow.holds Try.pinned (OpenSpec.ofChange diskSyncsSpec)

/-- ITS FALSE NEIGHBOUR: 'it returns false'. Refute it at one input. -/
def diskSyncsWrong : ChangeSpec := { name := "diskSyncs", fn := fun _ => fun
  | [d1, d2] => { results := [.lit (.bool false)], args := [d1, d2] }
  | _ => none }
def DiskSyncsWrongFalsely : Prop := diskSyncsRow.holds Try.pinned (OpenSpec.ofChange diskSyncsWrong)

/-- 'bramblelaw18.DiskOwn': WHATEVER THE INPUT: true; the input reads as it did. -/
def diskOwnSpec : ChangeSpec := { name := "diskOwn", fn := fun _ => fun
  | [d1, d2] => { results := [.lit (.bool true)], args := [d1, d2] }
  | _ => none }
def diskOwnRow : OpenClaim := { program := "ytmfidfaiopogbaa", sum := "18854e81e8062e364b097b91844eb8370990725aa99fd6346f01eb6ed47dae8d", func := "bramble/bramblelaw18.DiskOwn", spec := "diskOwn", apart := false }
def DiskOwnSaid : Prop := diskOwnRow.holds Try.pinned (OpenSpec.ofChange diskOwnSpec)

/-- ITS FALSE NEIGHBOUR: 'it returns false'. Refute it at one input. -/
def diskOwnWrong : ChangeSpec := { name := "diskOwn", fn := fun _ => fun
  | [d1, d2] => { results := [.lit (.bool false)], args := [d1, d2] }
  | _ => none }
def DiskOwnWrongFalsely : Prop := diskOwnRow.holds Try.pinned (OpenSpec.ofChange diskOwnWrong)

/-- 'bramblelaw18.DiskFull': WHATEVER THE INPUT: true; the input reads as it did. -/
def diskFullSpec : ChangeSpec := { name := "diskFull", fn := fun _ => fun
  | [d1, d2] => { results := [.lit (.bool true)], args := [d1, d2] }
  | _ => none }
def diskFullRow : OpenClaim := { program := "ytmfidfaiopogbaa", sum := "18854e81e8062e364b097b91844eb8370990725aa99fd6346f01eb6ed47dae8d", func := "bramble/bramblelaw18.DiskFull", spec := "diskFull", apart := false }
def DiskFullSaid : Prop := diskFullRow.holds Try.pinned (OpenSpec.ofChange diskFullSpec)

/-- ITS FALSE NEIGHBOUR: 'it returns false'. Refute it at one input. -/
def diskFullWrong : ChangeSpec := { name := "diskFull", fn := fun _ => fun
  | [d1, d2] => { results := [.lit (.bool false)], args := [d1, d2] }
  | _ => none }
def DiskFullWrongFalsely : Prop := diskFullRow.holds Try.pinned (OpenSpec.ofChange diskFullWrong)

/-- 'bramblelaw19.RecordEncodes': WHATEVER THE INPUT: true; the input reads as it did. -/
def recordEncodesSpec : ChangeSpec := { name := "recordEncodes", fn := fun _ => fun
  | [d] => { results := [.lit (.bool true)], args := [d] }
  | _ => none }
def recordEncodesRow : OpenClaim := { program := "ytmfidfaiopogbaa", sum := "18854e81e8062e364b097b91844eb8370990725aa99fd6346f01eb6ed47dae8d", func := "bramble/bramblelaw19.RecordEncodes", spec := "recordEncodes", unfollowed := true, recurses := true, apart := false }
def RecordEncodesSaid : Prop := recordEncodesRow.holds Try.pinned (OpenSpec.ofChange recordEncodesSpec)

/-- ITS FALSE NEIGHBOUR: 'it returns false'. Refute it at one input. -/
def recordEncodesWrong : ChangeSpec := { name := "recordEncodes", fn := fun _ => fun
  | [d] => { results := [.lit (.bool false)], args := [d] }
  | _ => none }
def RecordEncodesWrongFalsely : Prop := recordEncodesRow.holds Try.pinned (OpenSpec.ofChange recordEncodesWrong)

/-- 'bramblelaw19.RecordScans': WHATEVER THE INPUT: true; the input reads as it did. -/
def recordScansSpec : ChangeSpec := { name := "recordScans", fn := fun _ => fun
  | [d] => { results := [.lit (.bool true)], args := [d] }
  | _ => none }
def recordScansRow : OpenClaim := { program := "ytmfidfaiopogbaa", sum := "18854e81e8062e364b097b91844eb8370990725aa99fd6346f01eb6ed47dae8d", func := "bramble/bramblelaw19.RecordScans", spec := "recordScans", unfollowed := true, recurses := true, apart := false }
def RecordScansSaid : Prop := recordScansRow.holds Try.pinned (OpenSpec.ofChange recordScansSpec)

/-- ITS FALSE NEIGHBOUR: 'it returns false'. Refute it at one input. -/
def recordScansWrong : ChangeSpec := { name := "recordScans", fn := fun _ => fun
  | [d] => { results := [.lit (.bool false)], args := [d] }
  | _ => none }
def RecordScansWrongFalsely : Prop := recordScansRow.holds Try.pinned (OpenSpec.ofChange recordScansWrong)

/-- 'bramblelaw19.RecordTorn': WHATEVER THE INPUT: true; the input reads as it did. -/
def recordTornSpec : ChangeSpec := { name := "recordTorn", fn := fun _ => fun
  | [d1, d2] => { results := [.lit (.bool true)], args := [d1, d2] }
  | _ => none }
def recordTornRow : OpenClaim := { program := "ytmfidfaiopogbaa", sum := "18854e81e8062e364b097b91844eb8370990725aa99fd6346f01eb6ed47dae8d", func := "bramble/bramblelaw19.RecordTorn", spec := "recordTorn", unfollowed := true, recurses := true, apart := false }
def RecordTornSaid : Prop := recordTornRow.holds Try.pinned (OpenSpec.ofChange recordTornSpec)

/-- ITS FALSE NEIGHBOUR: 'it returns false'. Refute it at one input. -/
def recordTornWrong : ChangeSpec := { name := "recordTorn", fn := fun _ => fun
  | [d1, d2] => { results := [.lit (.bool false)], args := [d1, d2] }
  | _ => none }
def RecordTornWrongFalsely : Prop := recordTornRow.holds Try.pinned (OpenSpec.ofChange recordTornWrong)

/-- 'bramblelaw19.RecordLongest': WHATEVER THE INPUT: true; the input reads as it did. -/
def recordLongestSpec : ChangeSpec := { name := "recordLongest", fn := fun _ => fun
  | [d] => { results := [.lit (.bool true)], args := [d] }
  | _ => none }
def recordLongestRow : OpenClaim := { program := "ytmfidfaiopogbaa", sum := "18854e81e8062e364b097b91844eb8370990725aa99fd6346f01eb6ed47dae8d", func := "bramble/bramblelaw19.RecordLongest", spec := "recordLongest", unfollowed := true, recurses := true, apart := false }
def RecordLongestSaid : Prop := recordLongestRow.holds Try.pinned (OpenSpec.ofChange recordLongestSpec)

/-- ITS FALSE NEIGHBOUR: 'it returns false'. Refute it at one input. -/
def recordLongestWrong : ChangeSpec := { name := "recordLongest", fn := fun _ => fun
  | [d] => { results := [.lit (.bool false)], args := [d] }
  | _ => none }
def RecordLongestWrongFalsely : Prop := recordLongestRow.holds Try.pinned (OpenSpec.ofChange recordLongestWrong)

/-- 'bramblelaw19.RecordOwn': WHATEVER THE INPUT: true; the input reads as it did. -/
def recordOwnSpec : ChangeSpec := { name := "recordOwn", fn := fun _ => fun
  | [d] => { results := [.lit (.bool true)], args := [d] }
  | _ => none }
def recordOwnRow : OpenClaim := { program := "ytmfidfaiopogbaa", sum := "18854e81e8062e364b097b91844eb8370990725aa99fd6346f01eb6ed47dae8d", func := "bramble/bramblelaw19.RecordOwn", spec := "recordOwn", unfollowed := true, recurses := true, apart := false }
def RecordOwnSaid : Prop := recordOwnRow.holds Try.pinned (OpenSpec.ofChange recordOwnSpec)

/-- ITS FALSE NEIGHBOUR: 'it returns false'. Refute it at one input. -/
def recordOwnWrong : ChangeSpec := { name := "recordOwn", fn := fun _ => fun
  | [d] => { results := [.lit (.bool false)], args := [d] }
  | _ => none }
def RecordOwnWrongFalsely : Prop := recordOwnRow.holds Try.pinned (OpenSpec.ofChange recordOwnWrong)

/-- 'bramblelaw18.DiskLoads': WHATEVER THE INPUT: true; the input reads as it did. -/
def diskLoadsSpec : ChangeSpec := { name := "diskLoads", fn := fun _ => fun
  | [d1, d2] => { results := [.lit (.bool true)], args := [d1, d2] }
  | _ => none }
def diskLoadsRow : OpenClaim := { program := "ytmfidfaiopogbaa", sum := "18854e81e8062e364b097b91844eb8370990725aa99fd6346f01eb6ed47dae8d", func := "bramble/bramblelaw18.DiskLoads", spec := "diskLoads", apart := false }
def DiskLoadsSaid : Prop := diskLoadsRow.holds Try.pinned (OpenSpec.ofChange diskLoadsSpec)

/-- ITS FALSE NEIGHBOUR: 'it returns false'. Refute it at one input. -/
def diskLoadsWrong : ChangeSpec := { name := "diskLoads", fn := fun _ => fun
  | [d1, d2] => { results := [.lit (.bool false)], args := [d1, d2] }
  | _ => none }
def DiskLoadsWrongFalsely : Prop := diskLoadsRow.holds Try.pinned (OpenSpec.ofChange diskLoadsWrong)

/-- 'bramblelaw20.LogOpens': WHATEVER THE INPUT: true; the input reads as it did. -/
def logOpensSpec : ChangeSpec := { name := "logOpens", fn := fun _ => fun
  | [d1, d2, d3] => { results := [.lit (.bool true)], args := [d1, d2, d3] }
  | _ => none }
def logOpensRow : OpenClaim := { program := "ytmfidfaiopogbaa", sum := "18854e81e8062e364b097b91844eb8370990725aa99fd6346f01eb6ed47dae8d", func := "bramble/bramblelaw20.LogOpens", spec := "logOpens", unfollowed := true, recurses := true, apart := false }
def LogOpensSaid : Prop := logOpensRow.holds Try.pinned (OpenSpec.ofChange logOpensSpec)

/-- ITS FALSE NEIGHBOUR: 'it returns false'. Refute it at one input. -/
def logOpensWrong : ChangeSpec := { name := "logOpens", fn := fun _ => fun
  | [d1, d2, d3] => { results := [.lit (.bool false)], args := [d1, d2, d3] }
  | _ => none }
def LogOpensWrongFalsely : Prop := logOpensRow.holds Try.pinned (OpenSpec.ofChange logOpensWrong)

/-- 'bramblelaw20.LogDead': WHATEVER THE INPUT: true; the input reads as it did. -/
def logDeadSpec : ChangeSpec := { name := "logDead", fn := fun _ => fun
  | [d1, d2, d3] => { results := [.lit (.bool true)], args := [d1, d2, d3] }
  | _ => none }
def logDeadRow : OpenClaim := { program := "ytmfidfaiopogbaa", sum := "18854e81e8062e364b097b91844eb8370990725aa99fd6346f01eb6ed47dae8d", func := "bramble/bramblelaw20.LogDead", spec := "logDead", unfollowed := true, recurses := true, apart := false }
def LogDeadSaid : Prop := logDeadRow.holds Try.pinned (OpenSpec.ofChange logDeadSpec)

/-- ITS FALSE NEIGHBOUR: 'it returns false'. Refute it at one input. -/
def logDeadWrong : ChangeSpec := { name := "logDead", fn := fun _ => fun
  | [d1, d2, d3] => { results := [.lit (.bool false)], args := [d1, d2, d3] }
  | _ => none }
def LogDeadWrongFalsely : Prop := logDeadRow.holds Try.pinned (OpenSpec.ofChange logDeadWrong)

/-- 'bramblelaw20.LogCrashes': WHATEVER THE INPUT: true; the input reads as it did. -/
def logCrashesSpec : ChangeSpec := { name := "logCrashes", fn := fun _ => fun
  | [d1, d2, d3] => { results := [.lit (.bool true)], args := [d1, d2, d3] }
  | _ => none }
def logCrashesRow : OpenClaim := { program := "ytmfidfaiopogbaa", sum := "18854e81e8062e364b097b91844eb8370990725aa99fd6346f01eb6ed47dae8d", func := "bramble/bramblelaw20.LogCrashes", spec := "logCrashes", unfollowed := true, recurses := true, apart := false }
def LogCrashesSaid : Prop := logCrashesRow.holds Try.pinned (OpenSpec.ofChange logCrashesSpec)

/-- ITS FALSE NEIGHBOUR: 'it returns false'. Refute it at one input. -/
def logCrashesWrong : ChangeSpec := { name := "logCrashes", fn := fun _ => fun
  | [d1, d2, d3] => { results := [.lit (.bool false)], args := [d1, d2, d3] }
  | _ => none }
def LogCrashesWrongFalsely : Prop := logCrashesRow.holds Try.pinned (OpenSpec.ofChange logCrashesWrong)

/-- 'bramblelaw20.LogOwn': WHATEVER THE INPUT: true; the input reads as it did. -/
def logOwnSpec : ChangeSpec := { name := "logOwn", fn := fun _ => fun
  | [d] => { results := [.lit (.bool true)], args := [d] }
  | _ => none }
def logOwnRow : OpenClaim := { program := "ytmfidfaiopogbaa", sum := "18854e81e8062e364b097b91844eb8370990725aa99fd6346f01eb6ed47dae8d", func := "bramble/bramblelaw20.LogOwn", spec := "logOwn", unfollowed := true, recurses := true, apart := false }
def LogOwnSaid : Prop := logOwnRow.holds Try.pinned (OpenSpec.ofChange logOwnSpec)

/-- ITS FALSE NEIGHBOUR: 'it returns false'. Refute it at one input. -/
def logOwnWrong : ChangeSpec := { name := "logOwn", fn := fun _ => fun
  | [d] => { results := [.lit (.bool false)], args := [d] }
  | _ => none }
def LogOwnWrongFalsely : Prop := logOwnRow.holds Try.pinned (OpenSpec.ofChange logOwnWrong)

/-- 'bramblelaw20.LogPlays': WHATEVER THE INPUT: true; the input reads as it did. -/
def logPlaysSpec : ChangeSpec := { name := "logPlays", fn := fun _ => fun
  | [d] => { results := [.lit (.bool true)], args := [d] }
  | _ => none }
def logPlaysRow : OpenClaim := { program := "ytmfidfaiopogbaa", sum := "18854e81e8062e364b097b91844eb8370990725aa99fd6346f01eb6ed47dae8d", func := "bramble/bramblelaw20.LogPlays", spec := "logPlays", unfollowed := true, recurses := true, apart := false }
def LogPlaysSaid : Prop := logPlaysRow.holds Try.pinned (OpenSpec.ofChange logPlaysSpec)

/-- ITS FALSE NEIGHBOUR: 'it returns false'. Refute it at one input. -/
def logPlaysWrong : ChangeSpec := { name := "logPlays", fn := fun _ => fun
  | [d] => { results := [.lit (.bool false)], args := [d] }
  | _ => none }
def LogPlaysWrongFalsely : Prop := logPlaysRow.holds Try.pinned (OpenSpec.ofChange logPlaysWrong)

/-- 'bramblelaw20.LogFull': WHATEVER THE INPUT: true; the input reads as it did. -/
def logFullSpec : ChangeSpec := { name := "logFull", fn := fun _ => fun
  | [d1, d2] => { results := [.lit (.bool true)], args := [d1, d2] }
  | _ => none }
def logFullRow : OpenClaim := { program := "ytmfidfaiopogbaa", sum := "18854e81e8062e364b097b91844eb8370990725aa99fd6346f01eb6ed47dae8d", func := "bramble/bramblelaw20.LogFull", spec := "logFull", unfollowed := true, recurses := true, apart := false }
def LogFullSaid : Prop := logFullRow.holds Try.pinned (OpenSpec.ofChange logFullSpec)

/-- ITS FALSE NEIGHBOUR: 'it returns false'. Refute it at one input. -/
def logFullWrong : ChangeSpec := { name := "logFull", fn := fun _ => fun
  | [d1, d2] => { results := [.lit (.bool false)], args := [d1, d2] }
  | _ => none }
def LogFullWrongFalsely : Prop := logFullRow.holds Try.pinned (OpenSpec.ofChange logFullWrong)

/-- 'bramblelaw20.LogRewrites': WHATEVER THE INPUT: true; the input reads as it did. -/
def logRewritesSpec : ChangeSpec := { name := "logRewrites", fn := fun _ => fun
  | [d] => { results := [.lit (.bool true)], args := [d] }
  | _ => none }
def logRewritesRow : OpenClaim := { program := "ytmfidfaiopogbaa", sum := "18854e81e8062e364b097b91844eb8370990725aa99fd6346f01eb6ed47dae8d", func := "bramble/bramblelaw20.LogRewrites", spec := "logRewrites", unfollowed := true, recurses := true, apart := false }
def LogRewritesSaid : Prop := logRewritesRow.holds Try.pinned (OpenSpec.ofChange logRewritesSpec)

/-- ITS FALSE NEIGHBOUR: 'it returns false'. Refute it at one input. -/
def logRewritesWrong : ChangeSpec := { name := "logRewrites", fn := fun _ => fun
  | [d] => { results := [.lit (.bool false)], args := [d] }
  | _ => none }
def LogRewritesWrongFalsely : Prop := logRewritesRow.holds Try.pinned (OpenSpec.ofChange logRewritesWrong)

/- THE SECOND FORM. 'bulk': how many values and letters a reading holds, each counted each time it is reached (what is shared counts as often as it is met; a slice's spare places count too). A statement '..UptoSaid' is the law's where the arguments, and the package variables that the reading takes, are together of bulk at most 1048576: NARROWER than '..Said'. Prove '..Said' where nothing that the law and all that it calls make is longer than what came in: it says more and counts as full. Else prove '..UptoSaid'. A law counts once. -/
mutual
def uptoBulk {H : Type} : DataW H → Nat
  | .lit (.string bytes) => bytes.length + 1
  | .lit _ => 1
  | .nil => 1
  | .ptr d => uptoBulk d + 1
  | .slice elems spare => uptoBulkAll elems + uptoBulkAll spare + 1
  | .agg parts => uptoBulkAll parts + 1
  | .iface _ d => uptoBulk d + 1
  | .map entries => uptoBulkEntries entries + 1
  | .held _ => 1
def uptoBulkAll {H : Type} : List (DataW H) → Nat
  | [] => 0
  | d :: r => uptoBulk d + uptoBulkAll r
def uptoBulkEntries {H : Type} : List (Lit × DataW H) → Nat
  | [] => 0
  | x :: r => uptoBulkEntry x + uptoBulkEntries r
def uptoBulkEntry {H : Type} : Lit × DataW H → Nat
  | (.string bytes, d) => bytes.length + uptoBulk d + 1
  | (_, d) => uptoBulk d + 1
 end
def uptoSmall : (H : Type) → List (DataW H) → Bool := fun _ ds => decide (uptoBulkAll ds ≤ 1048576)
def OpenSpec.upto (s : _root_.Go.ChangeSpec) : _root_.Go.OpenSpec := { _root_.Go.OpenSpec.ofChange s with cond := some uptoSmall }

/-- 'bramblelaw18.DiskPlays', WHERE WHAT IT READS IS OF BULK AT MOST 1048576: true; the input reads as it did. -/
def diskPlaysUptoRow : OpenClaim := { program := "ytmfidfaiopogbaa", sum := "18854e81e8062e364b097b91844eb8370990725aa99fd6346f01eb6ed47dae8d", func := "bramble/bramblelaw18.DiskPlays", spec := "diskPlays", apart := false, narrowed := true }
def DiskPlaysUptoSaid : Prop := diskPlaysUptoRow.holds Try.pinned (OpenSpec.upto diskPlaysSpec)

/-- 'bramblelaw18.DiskCrashes', WHERE WHAT IT READS IS OF BULK AT MOST 1048576: true; the input reads as it did. -/
def diskCrashesUptoRow : OpenClaim := { program := "ytmfidfaiopogbaa", sum := "18854e81e8062e364b097b91844eb8370990725aa99fd6346f01eb6ed47dae8d", func := "bramble/bramblelaw18.DiskCrashes", spec := "diskCrashes", apart := false, narrowed := true }
def DiskCrashesUptoSaid : Prop := diskCrashesUptoRow.holds Try.pinned (OpenSpec.upto diskCrashesSpec)

/-- 'bramblelaw18.DiskSyncs', WHERE WHAT IT READS IS OF BULK AT MOST 1048576: true; the input reads as it did. -/
def diskSyncsUptoRow : OpenClaim := { program := "ytmfidfaiopogbaa", sum := "18854e81e8062e364b097b91844eb8370990725aa99fd6346f01eb6ed47dae8d", func := "bramble/bramblelaw18.DiskSyncs", spec := "diskSyncs", apart := false, narrowed := true }
def DiskSyncsUptoSaid : Prop := diskSyncsUptoRow.holds Try.pinned (OpenSpec.upto diskSyncsSpec)

/-- 'bramblelaw18.DiskOwn', WHERE WHAT IT READS IS OF BULK AT MOST 1048576: true; the input reads as it did. -/
def diskOwnUptoRow : OpenClaim := { program := "ytmfidfaiopogbaa", sum := "18854e81e8062e364b097b91844eb8370990725aa99fd6346f01eb6ed47dae8d", func := "bramble/bramblelaw18.DiskOwn", spec := "diskOwn", apart := false, narrowed := true }
def DiskOwnUptoSaid : Prop := diskOwnUptoRow.holds Try.pinned (OpenSpec.upto diskOwnSpec)

/-- 'bramblelaw18.DiskFull', WHERE WHAT IT READS IS OF BULK AT MOST 1048576: true; the input reads as it did. -/
def diskFullUptoRow : OpenClaim := { program := "ytmfidfaiopogbaa", sum := "18854e81e8062e364b097b91844eb8370990725aa99fd6346f01eb6ed47dae8d", func := "bramble/bramblelaw18.DiskFull", spec := "diskFull", apart := false, narrowed := true }
def DiskFullUptoSaid : Prop := diskFullUptoRow.holds Try.pinned (OpenSpec.upto diskFullSpec)

/-- 'bramblelaw19.RecordEncodes', WHERE WHAT IT READS IS OF BULK AT MOST 1048576: true; the input reads as it did. -/
def recordEncodesUptoRow : OpenClaim := { program := "ytmfidfaiopogbaa", sum := "18854e81e8062e364b097b91844eb8370990725aa99fd6346f01eb6ed47dae8d", func := "bramble/bramblelaw19.RecordEncodes", spec := "recordEncodes", unfollowed := true, recurses := true, apart := false, narrowed := true }
def RecordEncodesUptoSaid : Prop := recordEncodesUptoRow.holds Try.pinned (OpenSpec.upto recordEncodesSpec)

/-- 'bramblelaw19.RecordScans', WHERE WHAT IT READS IS OF BULK AT MOST 1048576: true; the input reads as it did. -/
def recordScansUptoRow : OpenClaim := { program := "ytmfidfaiopogbaa", sum := "18854e81e8062e364b097b91844eb8370990725aa99fd6346f01eb6ed47dae8d", func := "bramble/bramblelaw19.RecordScans", spec := "recordScans", unfollowed := true, recurses := true, apart := false, narrowed := true }
def RecordScansUptoSaid : Prop := recordScansUptoRow.holds Try.pinned (OpenSpec.upto recordScansSpec)

/-- 'bramblelaw19.RecordTorn', WHERE WHAT IT READS IS OF BULK AT MOST 1048576: true; the input reads as it did. -/
def recordTornUptoRow : OpenClaim := { program := "ytmfidfaiopogbaa", sum := "18854e81e8062e364b097b91844eb8370990725aa99fd6346f01eb6ed47dae8d", func := "bramble/bramblelaw19.RecordTorn", spec := "recordTorn", unfollowed := true, recurses := true, apart := false, narrowed := true }
def RecordTornUptoSaid : Prop := recordTornUptoRow.holds Try.pinned (OpenSpec.upto recordTornSpec)

/-- 'bramblelaw19.RecordLongest', WHERE WHAT IT READS IS OF BULK AT MOST 1048576: true; the input reads as it did. -/
def recordLongestUptoRow : OpenClaim := { program := "ytmfidfaiopogbaa", sum := "18854e81e8062e364b097b91844eb8370990725aa99fd6346f01eb6ed47dae8d", func := "bramble/bramblelaw19.RecordLongest", spec := "recordLongest", unfollowed := true, recurses := true, apart := false, narrowed := true }
def RecordLongestUptoSaid : Prop := recordLongestUptoRow.holds Try.pinned (OpenSpec.upto recordLongestSpec)

/-- 'bramblelaw19.RecordOwn', WHERE WHAT IT READS IS OF BULK AT MOST 1048576: true; the input reads as it did. -/
def recordOwnUptoRow : OpenClaim := { program := "ytmfidfaiopogbaa", sum := "18854e81e8062e364b097b91844eb8370990725aa99fd6346f01eb6ed47dae8d", func := "bramble/bramblelaw19.RecordOwn", spec := "recordOwn", unfollowed := true, recurses := true, apart := false, narrowed := true }
def RecordOwnUptoSaid : Prop := recordOwnUptoRow.holds Try.pinned (OpenSpec.upto recordOwnSpec)

/-- 'bramblelaw18.DiskLoads', WHERE WHAT IT READS IS OF BULK AT MOST 1048576: true; the input reads as it did. -/
def diskLoadsUptoRow : OpenClaim := { program := "ytmfidfaiopogbaa", sum := "18854e81e8062e364b097b91844eb8370990725aa99fd6346f01eb6ed47dae8d", func := "bramble/bramblelaw18.DiskLoads", spec := "diskLoads", apart := false, narrowed := true }
def DiskLoadsUptoSaid : Prop := diskLoadsUptoRow.holds Try.pinned (OpenSpec.upto diskLoadsSpec)

/-- 'bramblelaw20.LogOpens', WHERE WHAT IT READS IS OF BULK AT MOST 1048576: true; the input reads as it did. -/
def logOpensUptoRow : OpenClaim := { program := "ytmfidfaiopogbaa", sum := "18854e81e8062e364b097b91844eb8370990725aa99fd6346f01eb6ed47dae8d", func := "bramble/bramblelaw20.LogOpens", spec := "logOpens", unfollowed := true, recurses := true, apart := false, narrowed := true }
def LogOpensUptoSaid : Prop := logOpensUptoRow.holds Try.pinned (OpenSpec.upto logOpensSpec)

/-- 'bramblelaw20.LogDead', WHERE WHAT IT READS IS OF BULK AT MOST 1048576: true; the input reads as it did. -/
def logDeadUptoRow : OpenClaim := { program := "ytmfidfaiopogbaa", sum := "18854e81e8062e364b097b91844eb8370990725aa99fd6346f01eb6ed47dae8d", func := "bramble/bramblelaw20.LogDead", spec := "logDead", unfollowed := true, recurses := true, apart := false, narrowed := true }
def LogDeadUptoSaid : Prop := logDeadUptoRow.holds Try.pinned (OpenSpec.upto logDeadSpec)

/-- 'bramblelaw20.LogCrashes', WHERE WHAT IT READS IS OF BULK AT MOST 1048576: true; the input reads as it did. -/
def logCrashesUptoRow : OpenClaim := { program := "ytmfidfaiopogbaa", sum := "18854e81e8062e364b097b91844eb8370990725aa99fd6346f01eb6ed47dae8d", func := "bramble/bramblelaw20.LogCrashes", spec := "logCrashes", unfollowed := true, recurses := true, apart := false, narrowed := true }
def LogCrashesUptoSaid : Prop := logCrashesUptoRow.holds Try.pinned (OpenSpec.upto logCrashesSpec)

/-- 'bramblelaw20.LogOwn', WHERE WHAT IT READS IS OF BULK AT MOST 1048576: true; the input reads as it did. -/
def logOwnUptoRow : OpenClaim := { program := "ytmfidfaiopogbaa", sum := "18854e81e8062e364b097b91844eb8370990725aa99fd6346f01eb6ed47dae8d", func := "bramble/bramblelaw20.LogOwn", spec := "logOwn", unfollowed := true, recurses := true, apart := false, narrowed := true }
def LogOwnUptoSaid : Prop := logOwnUptoRow.holds Try.pinned (OpenSpec.upto logOwnSpec)

/-- 'bramblelaw20.LogPlays', WHERE WHAT IT READS IS OF BULK AT MOST 1048576: true; the input reads as it did. -/
def logPlaysUptoRow : OpenClaim := { program := "ytmfidfaiopogbaa", sum := "18854e81e8062e364b097b91844eb8370990725aa99fd6346f01eb6ed47dae8d", func := "bramble/bramblelaw20.LogPlays", spec := "logPlays", unfollowed := true, recurses := true, apart := false, narrowed := true }
def LogPlaysUptoSaid : Prop := logPlaysUptoRow.holds Try.pinned (OpenSpec.upto logPlaysSpec)

/-- 'bramblelaw20.LogFull', WHERE WHAT IT READS IS OF BULK AT MOST 1048576: true; the input reads as it did. -/
def logFullUptoRow : OpenClaim := { program := "ytmfidfaiopogbaa", sum := "18854e81e8062e364b097b91844eb8370990725aa99fd6346f01eb6ed47dae8d", func := "bramble/bramblelaw20.LogFull", spec := "logFull", unfollowed := true, recurses := true, apart := false, narrowed := true }
def LogFullUptoSaid : Prop := logFullUptoRow.holds Try.pinned (OpenSpec.upto logFullSpec)

/-- 'bramblelaw20.LogRewrites', WHERE WHAT IT READS IS OF BULK AT MOST 1048576: true; the input reads as it did. -/
def logRewritesUptoRow : OpenClaim := { program := "ytmfidfaiopogbaa", sum := "18854e81e8062e364b097b91844eb8370990725aa99fd6346f01eb6ed47dae8d", func := "bramble/bramblelaw20.LogRewrites", spec := "logRewrites", unfollowed := true, recurses := true, apart := false, narrowed := true }
def LogRewritesUptoSaid : Prop := logRewritesUptoRow.holds Try.pinned (OpenSpec.upto logRewritesSpec)

end Rows
end Go.Proofs.Ytmfidfaiopogbaa
