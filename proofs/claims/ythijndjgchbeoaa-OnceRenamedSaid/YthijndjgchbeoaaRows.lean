/-
  No cell of these rows narrows 'for every input' (looked for: loops, veiled, ifaces, maps, wideKeys, modest, calm, conditions, laid).
  DERIVED. THE GIVEN ROWS OF THIS SEAT. 12 by the template 'for every input the law returns true; each argument reads behind the call as it read before'; 0 by the template 'total and deterministic' (their statements: YthijndjgchbeoaaTotals.lean).
  GIVEN WITH THE SEED: the statements are not yours to turn. If you find one false, say at which input.
  Laid BY PROGRAM, IN A SANDBOX (cutbox-rows.mjs): the forced cells as the released guide's own fill.sh prints them over the translation 4ea8d5895f784aea… (all of the seat's roots in one cut). By AI agents, Wed Nov 11 2026. No macro, syntax, notation, axiom, sorry.
-/
import Derived.Test.YthijndjgchbeoaaChecked
import GoSem.Claim
import GoSem.ClaimJoined
import GoSem.ClaimMapViews
import Derived.JoinedTies
import Derived.KernelRfl
namespace Go.Proofs.Ythijndjgchbeoaa
/- THE CELL 'sum', in the pinned program and in every row, IS THE sha256 OF THE DUMP (.gsa) THAT YthijndjgchbeoaaProg.lean LOADS. Nothing in Lean hashes anything: it is a label: what it is worth is what the hold of that sum in a sandbox is worth. -/
noncomputable def Try.pinned : Pinned := { name := "ythijndjgchbeoaa", sum := "4ea8d5895f784aeac42efc3d753a5ef486c8049e3352277b54a6d5ef6430e02f", checked := Try.checked }
namespace Rows
def none {H : Type} : Left H := { results := [], args := [] }

/-- 'simprooflaw20.HistoryOf': WHATEVER THE INPUT: true; the input reads as it did. -/
def historyOfSpec : ChangeSpec := { name := "historyOf", fn := fun _ => fun
  | [d] => { results := [.lit (.bool true)], args := [d] }
  | _ => none }
def historyOfRow : OpenClaim := { program := "ythijndjgchbeoaa", sum := "4ea8d5895f784aeac42efc3d753a5ef486c8049e3352277b54a6d5ef6430e02f", func := "simproof/simprooflaw20.HistoryOf", spec := "historyOf", plainKeys := false, apart := false }
def HistoryOfSaid : Prop := historyOfRow.holds Try.pinned (OpenSpec.ofChange historyOfSpec)

/-- ITS FALSE NEIGHBOUR: 'it returns false'. Refute it at one input. -/
def historyOfWrong : ChangeSpec := { name := "historyOf", fn := fun _ => fun
  | [d] => { results := [.lit (.bool false)], args := [d] }
  | _ => none }
def HistoryOfWrongFalsely : Prop := historyOfRow.holds Try.pinned (OpenSpec.ofChange historyOfWrong)

/-- 'simprooflaw20.HistoryOwn': WHATEVER THE INPUT: true; the input reads as it did. -/
def historyOwnSpec : ChangeSpec := { name := "historyOwn", fn := fun _ => fun
  | [d] => { results := [.lit (.bool true)], args := [d] }
  | _ => none }
def historyOwnRow : OpenClaim := { program := "ythijndjgchbeoaa", sum := "4ea8d5895f784aeac42efc3d753a5ef486c8049e3352277b54a6d5ef6430e02f", func := "simproof/simprooflaw20.HistoryOwn", spec := "historyOwn", plainKeys := false, apart := false }
def HistoryOwnSaid : Prop := historyOwnRow.holds Try.pinned (OpenSpec.ofChange historyOwnSpec)

/-- ITS FALSE NEIGHBOUR: 'it returns false'. Refute it at one input. -/
def historyOwnWrong : ChangeSpec := { name := "historyOwn", fn := fun _ => fun
  | [d] => { results := [.lit (.bool false)], args := [d] }
  | _ => none }
def HistoryOwnWrongFalsely : Prop := historyOwnRow.holds Try.pinned (OpenSpec.ofChange historyOwnWrong)

/-- 'simprooflaw20.HistorySound': WHATEVER THE INPUT: true; the input reads as it did. -/
def historySoundSpec : ChangeSpec := { name := "historySound", fn := fun _ => fun
  | [d] => { results := [.lit (.bool true)], args := [d] }
  | _ => none }
def historySoundRow : OpenClaim := { program := "ythijndjgchbeoaa", sum := "4ea8d5895f784aeac42efc3d753a5ef486c8049e3352277b54a6d5ef6430e02f", func := "simproof/simprooflaw20.HistorySound", spec := "historySound", plainKeys := false, apart := false }
def HistorySoundSaid : Prop := historySoundRow.holds Try.pinned (OpenSpec.ofChange historySoundSpec)

/-- ITS FALSE NEIGHBOUR: 'it returns false'. Refute it at one input. -/
def historySoundWrong : ChangeSpec := { name := "historySound", fn := fun _ => fun
  | [d] => { results := [.lit (.bool false)], args := [d] }
  | _ => none }
def HistorySoundWrongFalsely : Prop := historySoundRow.holds Try.pinned (OpenSpec.ofChange historySoundWrong)

/-- 'simprooflaw20.HistoryChecks': WHATEVER THE INPUT: true; the input reads as it did. -/
def historyChecksSpec : ChangeSpec := { name := "historyChecks", fn := fun _ => fun
  | [d1, d2, d3, d4, d5, d6] => { results := [.lit (.bool true)], args := [d1, d2, d3, d4, d5, d6] }
  | _ => none }
def historyChecksRow : OpenClaim := { program := "ythijndjgchbeoaa", sum := "4ea8d5895f784aeac42efc3d753a5ef486c8049e3352277b54a6d5ef6430e02f", func := "simproof/simprooflaw20.HistoryChecks", spec := "historyChecks", plainKeys := false, apart := false }
def HistoryChecksSaid : Prop := historyChecksRow.holds Try.pinned (OpenSpec.ofChange historyChecksSpec)

/-- ITS FALSE NEIGHBOUR: 'it returns false'. Refute it at one input. -/
def historyChecksWrong : ChangeSpec := { name := "historyChecks", fn := fun _ => fun
  | [d1, d2, d3, d4, d5, d6] => { results := [.lit (.bool false)], args := [d1, d2, d3, d4, d5, d6] }
  | _ => none }
def HistoryChecksWrongFalsely : Prop := historyChecksRow.holds Try.pinned (OpenSpec.ofChange historyChecksWrong)

/-- 'simprooflaw20.HistoryLimit': WHATEVER THE INPUT: true; the input reads as it did. -/
def historyLimitSpec : ChangeSpec := { name := "historyLimit", fn := fun _ => fun
  | [d1, d2] => { results := [.lit (.bool true)], args := [d1, d2] }
  | _ => none }
def historyLimitRow : OpenClaim := { program := "ythijndjgchbeoaa", sum := "4ea8d5895f784aeac42efc3d753a5ef486c8049e3352277b54a6d5ef6430e02f", func := "simproof/simprooflaw20.HistoryLimit", spec := "historyLimit", plainKeys := false, apart := false }
def HistoryLimitSaid : Prop := historyLimitRow.holds Try.pinned (OpenSpec.ofChange historyLimitSpec)

/-- ITS FALSE NEIGHBOUR: 'it returns false'. Refute it at one input. -/
def historyLimitWrong : ChangeSpec := { name := "historyLimit", fn := fun _ => fun
  | [d1, d2] => { results := [.lit (.bool false)], args := [d1, d2] }
  | _ => none }
def HistoryLimitWrongFalsely : Prop := historyLimitRow.holds Try.pinned (OpenSpec.ofChange historyLimitWrong)

/-- 'simprooflaw24.OnceChecks': WHATEVER THE INPUT: true; the input reads as it did. -/
def onceChecksSpec : ChangeSpec := { name := "onceChecks", fn := fun _ => fun
  | [d1, d2, d3] => { results := [.lit (.bool true)], args := [d1, d2, d3] }
  | _ => none }
def onceChecksRow : OpenClaim := { program := "ythijndjgchbeoaa", sum := "4ea8d5895f784aeac42efc3d753a5ef486c8049e3352277b54a6d5ef6430e02f", func := "simproof/simprooflaw24.OnceChecks", spec := "onceChecks", plainKeys := false, apart := false }
def OnceChecksSaid : Prop := onceChecksRow.holds Try.pinned (OpenSpec.ofChange onceChecksSpec)

/-- ITS FALSE NEIGHBOUR: 'it returns false'. Refute it at one input. -/
def onceChecksWrong : ChangeSpec := { name := "onceChecks", fn := fun _ => fun
  | [d1, d2, d3] => { results := [.lit (.bool false)], args := [d1, d2, d3] }
  | _ => none }
def OnceChecksWrongFalsely : Prop := onceChecksRow.holds Try.pinned (OpenSpec.ofChange onceChecksWrong)

/-- 'simprooflaw24.OnceMissing': WHATEVER THE INPUT: true; the input reads as it did. -/
def onceMissingSpec : ChangeSpec := { name := "onceMissing", fn := fun _ => fun
  | [d1, d2, d3] => { results := [.lit (.bool true)], args := [d1, d2, d3] }
  | _ => none }
def onceMissingRow : OpenClaim := { program := "ythijndjgchbeoaa", sum := "4ea8d5895f784aeac42efc3d753a5ef486c8049e3352277b54a6d5ef6430e02f", func := "simproof/simprooflaw24.OnceMissing", spec := "onceMissing", plainKeys := false, apart := false }
def OnceMissingSaid : Prop := onceMissingRow.holds Try.pinned (OpenSpec.ofChange onceMissingSpec)

/-- ITS FALSE NEIGHBOUR: 'it returns false'. Refute it at one input. -/
def onceMissingWrong : ChangeSpec := { name := "onceMissing", fn := fun _ => fun
  | [d1, d2, d3] => { results := [.lit (.bool false)], args := [d1, d2, d3] }
  | _ => none }
def OnceMissingWrongFalsely : Prop := onceMissingRow.holds Try.pinned (OpenSpec.ofChange onceMissingWrong)

/-- 'simprooflaw24.OnceQueues': WHATEVER THE INPUT: true; the input reads as it did. -/
def onceQueuesSpec : ChangeSpec := { name := "onceQueues", fn := fun _ => fun
  | [d] => { results := [.lit (.bool true)], args := [d] }
  | _ => none }
def onceQueuesRow : OpenClaim := { program := "ythijndjgchbeoaa", sum := "4ea8d5895f784aeac42efc3d753a5ef486c8049e3352277b54a6d5ef6430e02f", func := "simproof/simprooflaw24.OnceQueues", spec := "onceQueues", plainKeys := false, apart := false }
def OnceQueuesSaid : Prop := onceQueuesRow.holds Try.pinned (OpenSpec.ofChange onceQueuesSpec)

/-- ITS FALSE NEIGHBOUR: 'it returns false'. Refute it at one input. -/
def onceQueuesWrong : ChangeSpec := { name := "onceQueues", fn := fun _ => fun
  | [d] => { results := [.lit (.bool false)], args := [d] }
  | _ => none }
def OnceQueuesWrongFalsely : Prop := onceQueuesRow.holds Try.pinned (OpenSpec.ofChange onceQueuesWrong)

/-- 'simprooflaw24.OnceEvidence': WHATEVER THE INPUT: true; the input reads as it did. -/
def onceEvidenceSpec : ChangeSpec := { name := "onceEvidence", fn := fun _ => fun
  | [d1, d2, d3] => { results := [.lit (.bool true)], args := [d1, d2, d3] }
  | _ => none }
def onceEvidenceRow : OpenClaim := { program := "ythijndjgchbeoaa", sum := "4ea8d5895f784aeac42efc3d753a5ef486c8049e3352277b54a6d5ef6430e02f", func := "simproof/simprooflaw24.OnceEvidence", spec := "onceEvidence", plainKeys := false, apart := false }
def OnceEvidenceSaid : Prop := onceEvidenceRow.holds Try.pinned (OpenSpec.ofChange onceEvidenceSpec)

/-- ITS FALSE NEIGHBOUR: 'it returns false'. Refute it at one input. -/
def onceEvidenceWrong : ChangeSpec := { name := "onceEvidence", fn := fun _ => fun
  | [d1, d2, d3] => { results := [.lit (.bool false)], args := [d1, d2, d3] }
  | _ => none }
def OnceEvidenceWrongFalsely : Prop := onceEvidenceRow.holds Try.pinned (OpenSpec.ofChange onceEvidenceWrong)

/-- 'simprooflaw24.OnceRenamed': WHATEVER THE INPUT: true; the input reads as it did. -/
def onceRenamedSpec : ChangeSpec := { name := "onceRenamed", fn := fun _ => fun
  | [d1, d2, d3, d4, d5] => { results := [.lit (.bool true)], args := [d1, d2, d3, d4, d5] }
  | _ => none }
def onceRenamedRow : OpenClaim := { program := "ythijndjgchbeoaa", sum := "4ea8d5895f784aeac42efc3d753a5ef486c8049e3352277b54a6d5ef6430e02f", func := "simproof/simprooflaw24.OnceRenamed", spec := "onceRenamed", plainKeys := false, apart := false }
def OnceRenamedSaid : Prop := onceRenamedRow.holds Try.pinned (OpenSpec.ofChange onceRenamedSpec)

/-- ITS FALSE NEIGHBOUR: 'it returns false'. Refute it at one input. -/
def onceRenamedWrong : ChangeSpec := { name := "onceRenamed", fn := fun _ => fun
  | [d1, d2, d3, d4, d5] => { results := [.lit (.bool false)], args := [d1, d2, d3, d4, d5] }
  | _ => none }
def OnceRenamedWrongFalsely : Prop := onceRenamedRow.holds Try.pinned (OpenSpec.ofChange onceRenamedWrong)

/-- 'simprooflaw24.OnceIgnores': WHATEVER THE INPUT: true; the input reads as it did. -/
def onceIgnoresSpec : ChangeSpec := { name := "onceIgnores", fn := fun _ => fun
  | [d1, d2, d3] => { results := [.lit (.bool true)], args := [d1, d2, d3] }
  | _ => none }
def onceIgnoresRow : OpenClaim := { program := "ythijndjgchbeoaa", sum := "4ea8d5895f784aeac42efc3d753a5ef486c8049e3352277b54a6d5ef6430e02f", func := "simproof/simprooflaw24.OnceIgnores", spec := "onceIgnores", plainKeys := false, apart := false }
def OnceIgnoresSaid : Prop := onceIgnoresRow.holds Try.pinned (OpenSpec.ofChange onceIgnoresSpec)

/-- ITS FALSE NEIGHBOUR: 'it returns false'. Refute it at one input. -/
def onceIgnoresWrong : ChangeSpec := { name := "onceIgnores", fn := fun _ => fun
  | [d1, d2, d3] => { results := [.lit (.bool false)], args := [d1, d2, d3] }
  | _ => none }
def OnceIgnoresWrongFalsely : Prop := onceIgnoresRow.holds Try.pinned (OpenSpec.ofChange onceIgnoresWrong)

/-- 'simprooflaw24.OnceErrors': WHATEVER THE INPUT: true; the input reads as it did. -/
def onceErrorsSpec : ChangeSpec := { name := "onceErrors", fn := fun _ => fun
  | [d1, d2, d3, d4] => { results := [.lit (.bool true)], args := [d1, d2, d3, d4] }
  | _ => none }
def onceErrorsRow : OpenClaim := { program := "ythijndjgchbeoaa", sum := "4ea8d5895f784aeac42efc3d753a5ef486c8049e3352277b54a6d5ef6430e02f", func := "simproof/simprooflaw24.OnceErrors", spec := "onceErrors", plainKeys := false, apart := false }
def OnceErrorsSaid : Prop := onceErrorsRow.holds Try.pinned (OpenSpec.ofChange onceErrorsSpec)

/-- ITS FALSE NEIGHBOUR: 'it returns false'. Refute it at one input. -/
def onceErrorsWrong : ChangeSpec := { name := "onceErrors", fn := fun _ => fun
  | [d1, d2, d3, d4] => { results := [.lit (.bool false)], args := [d1, d2, d3, d4] }
  | _ => none }
def OnceErrorsWrongFalsely : Prop := onceErrorsRow.holds Try.pinned (OpenSpec.ofChange onceErrorsWrong)

/- THE SECOND FORM. 'bulk': how many values and letters a reading holds, each counted each time it is reached (what is shared counts as often as it is met; a slice's spare places count too). A statement '..UptoSaid' is the law's where the arguments, and the package variables that the reading takes, are together of bulk at most 1048576: NARROWER than '..Said'. Prove '..Said' where nothing that the law and all that it calls make is longer than what came in: it says more and counts as full. Else prove '..UptoSaid'. A law counts once. -/
mutual
def uptoBulk {H : Type} : DataW H → Nat
  | .lit (.string bytes) => bytes.length + 1
  | .lit _ => 1
  | .nil => 1
  | .ptr d => uptoBulk d + 1
  | .slice elems spare => uptoBulkAll elems + uptoBulkAll spare + 1
  | .agg parts => uptoBulkAll parts + 1
  | .iface _ d => uptoBulk d + 1
  | .map entries => uptoBulkEntries entries + 1
  | .held _ => 1
def uptoBulkAll {H : Type} : List (DataW H) → Nat
  | [] => 0
  | d :: r => uptoBulk d + uptoBulkAll r
def uptoBulkEntries {H : Type} : List (Lit × DataW H) → Nat
  | [] => 0
  | x :: r => uptoBulkEntry x + uptoBulkEntries r
def uptoBulkEntry {H : Type} : Lit × DataW H → Nat
  | (.string bytes, d) => bytes.length + uptoBulk d + 1
  | (_, d) => uptoBulk d + 1
 end
def uptoSmall : (H : Type) → List (DataW H) → Bool := fun _ ds => decide (uptoBulkAll ds ≤ 1048576)
def OpenSpec.upto (s : _root_.Go.ChangeSpec) : _root_.Go.OpenSpec := { _root_.Go.OpenSpec.ofChange s with cond := some uptoSmall }

/-- 'simprooflaw20.HistoryOf', WHERE WHAT IT READS IS OF BULK AT MOST 1048576: true; the input reads as it did. -/
def historyOfUptoRow : OpenClaim := { program := "ythijndjgchbeoaa", sum := "4ea8d5895f784aeac42efc3d753a5ef486c8049e3352277b54a6d5ef6430e02f", func := "simproof/simprooflaw20.HistoryOf", spec := "historyOf", plainKeys := false, apart := false, narrowed := true }
def HistoryOfUptoSaid : Prop := historyOfUptoRow.holds Try.pinned (OpenSpec.upto historyOfSpec)

/-- 'simprooflaw20.HistoryOwn', WHERE WHAT IT READS IS OF BULK AT MOST 1048576: true; the input reads as it did. -/
def historyOwnUptoRow : OpenClaim := { program := "ythijndjgchbeoaa", sum := "4ea8d5895f784aeac42efc3d753a5ef486c8049e3352277b54a6d5ef6430e02f", func := "simproof/simprooflaw20.HistoryOwn", spec := "historyOwn", plainKeys := false, apart := false, narrowed := true }
def HistoryOwnUptoSaid : Prop := historyOwnUptoRow.holds Try.pinned (OpenSpec.upto historyOwnSpec)

/-- 'simprooflaw20.HistorySound', WHERE WHAT IT READS IS OF BULK AT MOST 1048576: true; the input reads as it did. -/
def historySoundUptoRow : OpenClaim := { program := "ythijndjgchbeoaa", sum := "4ea8d5895f784aeac42efc3d753a5ef486c8049e3352277b54a6d5ef6430e02f", func := "simproof/simprooflaw20.HistorySound", spec := "historySound", plainKeys := false, apart := false, narrowed := true }
def HistorySoundUptoSaid : Prop := historySoundUptoRow.holds Try.pinned (OpenSpec.upto historySoundSpec)

/-- 'simprooflaw20.HistoryChecks', WHERE WHAT IT READS IS OF BULK AT MOST 1048576: true; the input reads as it did. -/
def historyChecksUptoRow : OpenClaim := { program := "ythijndjgchbeoaa", sum := "4ea8d5895f784aeac42efc3d753a5ef486c8049e3352277b54a6d5ef6430e02f", func := "simproof/simprooflaw20.HistoryChecks", spec := "historyChecks", plainKeys := false, apart := false, narrowed := true }
def HistoryChecksUptoSaid : Prop := historyChecksUptoRow.holds Try.pinned (OpenSpec.upto historyChecksSpec)

/-- 'simprooflaw20.HistoryLimit', WHERE WHAT IT READS IS OF BULK AT MOST 1048576: true; the input reads as it did. -/
def historyLimitUptoRow : OpenClaim := { program := "ythijndjgchbeoaa", sum := "4ea8d5895f784aeac42efc3d753a5ef486c8049e3352277b54a6d5ef6430e02f", func := "simproof/simprooflaw20.HistoryLimit", spec := "historyLimit", plainKeys := false, apart := false, narrowed := true }
def HistoryLimitUptoSaid : Prop := historyLimitUptoRow.holds Try.pinned (OpenSpec.upto historyLimitSpec)

/-- 'simprooflaw24.OnceChecks', WHERE WHAT IT READS IS OF BULK AT MOST 1048576: true; the input reads as it did. -/
def onceChecksUptoRow : OpenClaim := { program := "ythijndjgchbeoaa", sum := "4ea8d5895f784aeac42efc3d753a5ef486c8049e3352277b54a6d5ef6430e02f", func := "simproof/simprooflaw24.OnceChecks", spec := "onceChecks", plainKeys := false, apart := false, narrowed := true }
def OnceChecksUptoSaid : Prop := onceChecksUptoRow.holds Try.pinned (OpenSpec.upto onceChecksSpec)

/-- 'simprooflaw24.OnceMissing', WHERE WHAT IT READS IS OF BULK AT MOST 1048576: true; the input reads as it did. -/
def onceMissingUptoRow : OpenClaim := { program := "ythijndjgchbeoaa", sum := "4ea8d5895f784aeac42efc3d753a5ef486c8049e3352277b54a6d5ef6430e02f", func := "simproof/simprooflaw24.OnceMissing", spec := "onceMissing", plainKeys := false, apart := false, narrowed := true }
def OnceMissingUptoSaid : Prop := onceMissingUptoRow.holds Try.pinned (OpenSpec.upto onceMissingSpec)

/-- 'simprooflaw24.OnceQueues', WHERE WHAT IT READS IS OF BULK AT MOST 1048576: true; the input reads as it did. -/
def onceQueuesUptoRow : OpenClaim := { program := "ythijndjgchbeoaa", sum := "4ea8d5895f784aeac42efc3d753a5ef486c8049e3352277b54a6d5ef6430e02f", func := "simproof/simprooflaw24.OnceQueues", spec := "onceQueues", plainKeys := false, apart := false, narrowed := true }
def OnceQueuesUptoSaid : Prop := onceQueuesUptoRow.holds Try.pinned (OpenSpec.upto onceQueuesSpec)

/-- 'simprooflaw24.OnceEvidence', WHERE WHAT IT READS IS OF BULK AT MOST 1048576: true; the input reads as it did. -/
def onceEvidenceUptoRow : OpenClaim := { program := "ythijndjgchbeoaa", sum := "4ea8d5895f784aeac42efc3d753a5ef486c8049e3352277b54a6d5ef6430e02f", func := "simproof/simprooflaw24.OnceEvidence", spec := "onceEvidence", plainKeys := false, apart := false, narrowed := true }
def OnceEvidenceUptoSaid : Prop := onceEvidenceUptoRow.holds Try.pinned (OpenSpec.upto onceEvidenceSpec)

/-- 'simprooflaw24.OnceRenamed', WHERE WHAT IT READS IS OF BULK AT MOST 1048576: true; the input reads as it did. -/
def onceRenamedUptoRow : OpenClaim := { program := "ythijndjgchbeoaa", sum := "4ea8d5895f784aeac42efc3d753a5ef486c8049e3352277b54a6d5ef6430e02f", func := "simproof/simprooflaw24.OnceRenamed", spec := "onceRenamed", plainKeys := false, apart := false, narrowed := true }
def OnceRenamedUptoSaid : Prop := onceRenamedUptoRow.holds Try.pinned (OpenSpec.upto onceRenamedSpec)

/-- 'simprooflaw24.OnceIgnores', WHERE WHAT IT READS IS OF BULK AT MOST 1048576: true; the input reads as it did. -/
def onceIgnoresUptoRow : OpenClaim := { program := "ythijndjgchbeoaa", sum := "4ea8d5895f784aeac42efc3d753a5ef486c8049e3352277b54a6d5ef6430e02f", func := "simproof/simprooflaw24.OnceIgnores", spec := "onceIgnores", plainKeys := false, apart := false, narrowed := true }
def OnceIgnoresUptoSaid : Prop := onceIgnoresUptoRow.holds Try.pinned (OpenSpec.upto onceIgnoresSpec)

/-- 'simprooflaw24.OnceErrors', WHERE WHAT IT READS IS OF BULK AT MOST 1048576: true; the input reads as it did. -/
def onceErrorsUptoRow : OpenClaim := { program := "ythijndjgchbeoaa", sum := "4ea8d5895f784aeac42efc3d753a5ef486c8049e3352277b54a6d5ef6430e02f", func := "simproof/simprooflaw24.OnceErrors", spec := "onceErrors", plainKeys := false, apart := false, narrowed := true }
def OnceErrorsUptoSaid : Prop := onceErrorsUptoRow.holds Try.pinned (OpenSpec.upto onceErrorsSpec)

end Rows
end Go.Proofs.Ythijndjgchbeoaa
