/-
  No cell of these rows narrows 'for every input' (looked for: loops, veiled, ifaces, maps, wideKeys, modest, calm, conditions, laid).
  DERIVED. THE GIVEN ROWS OF THIS SEAT. 9 by the template 'for every input the law returns true; each argument reads behind the call as it read before'; 0 by the template 'total and deterministic' (their statements: YtfegkbmnclhljaaTotals.lean).
  GIVEN WITH THE SEED: the statements are not yours to turn. If you find one false, say at which input.
  Laid BY PROGRAM, IN A SANDBOX (cutbox-rows.mjs): the forced cells as the released guide's own fill.sh prints them over the translation 5e356b670fdf126b… (all of the seat's roots in one cut). By AI agents, Wed Nov 11 2026. No macro, syntax, notation, axiom, sorry.
-/
import Derived.Test.YtfegkbmnclhljaaChecked
import GoSem.Claim
import GoSem.ClaimJoined
import GoSem.ClaimMapViews
import Derived.JoinedTies
import Derived.KernelRfl
namespace Go.Proofs.Ytfegkbmnclhljaa
/- THE CELL 'sum', in the pinned program and in every row, IS THE sha256 OF THE DUMP (.gsa) THAT YtfegkbmnclhljaaProg.lean LOADS. Nothing in Lean hashes anything: it is a label: what it is worth is what the hold of that sum in a sandbox is worth. -/
noncomputable def Try.pinned : Pinned := { name := "ytfegkbmnclhljaa", sum := "5e356b670fdf126b14967c105dd5ab5e6b15d855c2efa1b7e1e0ae28f353569c", checked := Try.checked }
namespace Rows
def none {H : Type} : Left H := { results := [], args := [] }

/-- 'simprooflaw22.SerialEdges': WHATEVER THE INPUT: true; the input reads as it did. -/
def serialEdgesSpec : ChangeSpec := { name := "serialEdges", fn := fun _ => fun
  | [d1, d2, d3] => { results := [.lit (.bool true)], args := [d1, d2, d3] }
  | _ => none }
def serialEdgesRow : OpenClaim := { program := "ytfegkbmnclhljaa", sum := "5e356b670fdf126b14967c105dd5ab5e6b15d855c2efa1b7e1e0ae28f353569c", func := "simproof/simprooflaw22.SerialEdges", spec := "serialEdges", unfollowed := true, recurses := true, plainKeys := false, apart := false }
def SerialEdgesSaid : Prop := serialEdgesRow.holds Try.pinned (OpenSpec.ofChange serialEdgesSpec)

/-- ITS FALSE NEIGHBOUR: 'it returns false'. Refute it at one input. -/
def serialEdgesWrong : ChangeSpec := { name := "serialEdges", fn := fun _ => fun
  | [d1, d2, d3] => { results := [.lit (.bool false)], args := [d1, d2, d3] }
  | _ => none }
def SerialEdgesWrongFalsely : Prop := serialEdgesRow.holds Try.pinned (OpenSpec.ofChange serialEdgesWrong)

/-- 'simprooflaw22.SerialExact': WHATEVER THE INPUT: true; the input reads as it did. -/
def serialExactSpec : ChangeSpec := { name := "serialExact", fn := fun _ => fun
  | [d1, d2] => { results := [.lit (.bool true)], args := [d1, d2] }
  | _ => none }
def serialExactRow : OpenClaim := { program := "ytfegkbmnclhljaa", sum := "5e356b670fdf126b14967c105dd5ab5e6b15d855c2efa1b7e1e0ae28f353569c", func := "simproof/simprooflaw22.SerialExact", spec := "serialExact", unfollowed := true, recurses := true, plainKeys := false, apart := false }
def SerialExactSaid : Prop := serialExactRow.holds Try.pinned (OpenSpec.ofChange serialExactSpec)

/-- ITS FALSE NEIGHBOUR: 'it returns false'. Refute it at one input. -/
def serialExactWrong : ChangeSpec := { name := "serialExact", fn := fun _ => fun
  | [d1, d2] => { results := [.lit (.bool false)], args := [d1, d2] }
  | _ => none }
def SerialExactWrongFalsely : Prop := serialExactRow.holds Try.pinned (OpenSpec.ofChange serialExactWrong)

/-- 'simprooflaw22.SerialOrder': WHATEVER THE INPUT: true; the input reads as it did. -/
def serialOrderSpec : ChangeSpec := { name := "serialOrder", fn := fun _ => fun
  | [d1, d2, d3] => { results := [.lit (.bool true)], args := [d1, d2, d3] }
  | _ => none }
def serialOrderRow : OpenClaim := { program := "ytfegkbmnclhljaa", sum := "5e356b670fdf126b14967c105dd5ab5e6b15d855c2efa1b7e1e0ae28f353569c", func := "simproof/simprooflaw22.SerialOrder", spec := "serialOrder", unfollowed := true, recurses := true, plainKeys := false, apart := false }
def SerialOrderSaid : Prop := serialOrderRow.holds Try.pinned (OpenSpec.ofChange serialOrderSpec)

/-- ITS FALSE NEIGHBOUR: 'it returns false'. Refute it at one input. -/
def serialOrderWrong : ChangeSpec := { name := "serialOrder", fn := fun _ => fun
  | [d1, d2, d3] => { results := [.lit (.bool false)], args := [d1, d2, d3] }
  | _ => none }
def SerialOrderWrongFalsely : Prop := serialOrderRow.holds Try.pinned (OpenSpec.ofChange serialOrderWrong)

/-- 'simprooflaw22.SerialCycles': WHATEVER THE INPUT: true; the input reads as it did. -/
def serialCyclesSpec : ChangeSpec := { name := "serialCycles", fn := fun _ => fun
  | [d1, d2] => { results := [.lit (.bool true)], args := [d1, d2] }
  | _ => none }
def serialCyclesRow : OpenClaim := { program := "ytfegkbmnclhljaa", sum := "5e356b670fdf126b14967c105dd5ab5e6b15d855c2efa1b7e1e0ae28f353569c", func := "simproof/simprooflaw22.SerialCycles", spec := "serialCycles", unfollowed := true, recurses := true, plainKeys := false, apart := false }
def SerialCyclesSaid : Prop := serialCyclesRow.holds Try.pinned (OpenSpec.ofChange serialCyclesSpec)

/-- ITS FALSE NEIGHBOUR: 'it returns false'. Refute it at one input. -/
def serialCyclesWrong : ChangeSpec := { name := "serialCycles", fn := fun _ => fun
  | [d1, d2] => { results := [.lit (.bool false)], args := [d1, d2] }
  | _ => none }
def SerialCyclesWrongFalsely : Prop := serialCyclesRow.holds Try.pinned (OpenSpec.ofChange serialCyclesWrong)

/-- 'simprooflaw22.SerialStrict': WHATEVER THE INPUT: true; the input reads as it did. -/
def serialStrictSpec : ChangeSpec := { name := "serialStrict", fn := fun _ => fun
  | [d1, d2] => { results := [.lit (.bool true)], args := [d1, d2] }
  | _ => none }
def serialStrictRow : OpenClaim := { program := "ytfegkbmnclhljaa", sum := "5e356b670fdf126b14967c105dd5ab5e6b15d855c2efa1b7e1e0ae28f353569c", func := "simproof/simprooflaw22.SerialStrict", spec := "serialStrict", unfollowed := true, recurses := true, plainKeys := false, apart := false }
def SerialStrictSaid : Prop := serialStrictRow.holds Try.pinned (OpenSpec.ofChange serialStrictSpec)

/-- ITS FALSE NEIGHBOUR: 'it returns false'. Refute it at one input. -/
def serialStrictWrong : ChangeSpec := { name := "serialStrict", fn := fun _ => fun
  | [d1, d2] => { results := [.lit (.bool false)], args := [d1, d2] }
  | _ => none }
def SerialStrictWrongFalsely : Prop := serialStrictRow.holds Try.pinned (OpenSpec.ofChange serialStrictWrong)

/-- 'simprooflaw22.SerialAtomic': WHATEVER THE INPUT: true; the input reads as it did. -/
def serialAtomicSpec : ChangeSpec := { name := "serialAtomic", fn := fun _ => fun
  | [d] => { results := [.lit (.bool true)], args := [d] }
  | _ => none }
def serialAtomicRow : OpenClaim := { program := "ytfegkbmnclhljaa", sum := "5e356b670fdf126b14967c105dd5ab5e6b15d855c2efa1b7e1e0ae28f353569c", func := "simproof/simprooflaw22.SerialAtomic", spec := "serialAtomic", unfollowed := true, recurses := true, plainKeys := false, apart := false }
def SerialAtomicSaid : Prop := serialAtomicRow.holds Try.pinned (OpenSpec.ofChange serialAtomicSpec)

/-- ITS FALSE NEIGHBOUR: 'it returns false'. Refute it at one input. -/
def serialAtomicWrong : ChangeSpec := { name := "serialAtomic", fn := fun _ => fun
  | [d] => { results := [.lit (.bool false)], args := [d] }
  | _ => none }
def SerialAtomicWrongFalsely : Prop := serialAtomicRow.holds Try.pinned (OpenSpec.ofChange serialAtomicWrong)

/-- 'simprooflaw22.SerialOwn': WHATEVER THE INPUT: true; the input reads as it did. -/
def serialOwnSpec : ChangeSpec := { name := "serialOwn", fn := fun _ => fun
  | [d1, d2] => { results := [.lit (.bool true)], args := [d1, d2] }
  | _ => none }
def serialOwnRow : OpenClaim := { program := "ytfegkbmnclhljaa", sum := "5e356b670fdf126b14967c105dd5ab5e6b15d855c2efa1b7e1e0ae28f353569c", func := "simproof/simprooflaw22.SerialOwn", spec := "serialOwn", unfollowed := true, recurses := true, plainKeys := false, apart := false }
def SerialOwnSaid : Prop := serialOwnRow.holds Try.pinned (OpenSpec.ofChange serialOwnSpec)

/-- ITS FALSE NEIGHBOUR: 'it returns false'. Refute it at one input. -/
def serialOwnWrong : ChangeSpec := { name := "serialOwn", fn := fun _ => fun
  | [d1, d2] => { results := [.lit (.bool false)], args := [d1, d2] }
  | _ => none }
def SerialOwnWrongFalsely : Prop := serialOwnRow.holds Try.pinned (OpenSpec.ofChange serialOwnWrong)

/-- 'simprooflaw22.SerialLocal': WHATEVER THE INPUT: true; the input reads as it did. -/
def serialLocalSpec : ChangeSpec := { name := "serialLocal", fn := fun _ => fun
  | [d1, d2] => { results := [.lit (.bool true)], args := [d1, d2] }
  | _ => none }
def serialLocalRow : OpenClaim := { program := "ytfegkbmnclhljaa", sum := "5e356b670fdf126b14967c105dd5ab5e6b15d855c2efa1b7e1e0ae28f353569c", func := "simproof/simprooflaw22.SerialLocal", spec := "serialLocal", unfollowed := true, recurses := true, plainKeys := false, apart := false }
def SerialLocalSaid : Prop := serialLocalRow.holds Try.pinned (OpenSpec.ofChange serialLocalSpec)

/-- ITS FALSE NEIGHBOUR: 'it returns false'. Refute it at one input. -/
def serialLocalWrong : ChangeSpec := { name := "serialLocal", fn := fun _ => fun
  | [d1, d2] => { results := [.lit (.bool false)], args := [d1, d2] }
  | _ => none }
def SerialLocalWrongFalsely : Prop := serialLocalRow.holds Try.pinned (OpenSpec.ofChange serialLocalWrong)

/-- 'simprooflaw22.SerialVerdicts': WHATEVER THE INPUT: true; the input reads as it did. -/
def serialVerdictsSpec : ChangeSpec := { name := "serialVerdicts", fn := fun _ => fun
  | [d1, d2, d3, d4, d5, d6] => { results := [.lit (.bool true)], args := [d1, d2, d3, d4, d5, d6] }
  | _ => none }
def serialVerdictsRow : OpenClaim := { program := "ytfegkbmnclhljaa", sum := "5e356b670fdf126b14967c105dd5ab5e6b15d855c2efa1b7e1e0ae28f353569c", func := "simproof/simprooflaw22.SerialVerdicts", spec := "serialVerdicts", unfollowed := true, recurses := true, plainKeys := false, apart := false }
def SerialVerdictsSaid : Prop := serialVerdictsRow.holds Try.pinned (OpenSpec.ofChange serialVerdictsSpec)

/-- ITS FALSE NEIGHBOUR: 'it returns false'. Refute it at one input. -/
def serialVerdictsWrong : ChangeSpec := { name := "serialVerdicts", fn := fun _ => fun
  | [d1, d2, d3, d4, d5, d6] => { results := [.lit (.bool false)], args := [d1, d2, d3, d4, d5, d6] }
  | _ => none }
def SerialVerdictsWrongFalsely : Prop := serialVerdictsRow.holds Try.pinned (OpenSpec.ofChange serialVerdictsWrong)

/- THE SECOND FORM. 'bulk': how many values and letters a reading holds, each counted each time it is reached (what is shared counts as often as it is met; a slice's spare places count too). A statement '..UptoSaid' is the law's where the arguments, and the package variables that the reading takes, are together of bulk at most 1048576: NARROWER than '..Said'. Prove '..Said' where nothing that the law and all that it calls make is longer than what came in: it says more and counts as full. Else prove '..UptoSaid'. A law counts once. -/
mutual
def uptoBulk {H : Type} : DataW H → Nat
  | .lit (.string bytes) => bytes.length + 1
  | .lit _ => 1
  | .nil => 1
  | .ptr d => uptoBulk d + 1
  | .slice elems spare => uptoBulkAll elems + uptoBulkAll spare + 1
  | .agg parts => uptoBulkAll parts + 1
  | .iface _ d => uptoBulk d + 1
  | .map entries => uptoBulkEntries entries + 1
  | .held _ => 1
def uptoBulkAll {H : Type} : List (DataW H) → Nat
  | [] => 0
  | d :: r => uptoBulk d + uptoBulkAll r
def uptoBulkEntries {H : Type} : List (Lit × DataW H) → Nat
  | [] => 0
  | x :: r => uptoBulkEntry x + uptoBulkEntries r
def uptoBulkEntry {H : Type} : Lit × DataW H → Nat
  | (.string bytes, d) => bytes.length + uptoBulk d + 1
  | (_, d) => uptoBulk d + 1
 end
def uptoSmall : (H : Type) → List (DataW H) → Bool := fun _ ds => decide (uptoBulkAll ds ≤ 1048576)
def OpenSpec.upto (s : _root_.Go.ChangeSpec) : _root_.Go.OpenSpec := { _root_.Go.OpenSpec.ofChange s with cond := some uptoSmall }

/-- 'simprooflaw22.SerialEdges', WHERE WHAT IT READS IS OF BULK AT MOST 1048576: true; the input reads as it did. -/
def serialEdgesUptoRow : OpenClaim := { program := "ytfegkbmnclhljaa", sum := "5e356b670fdf126b14967c105dd5ab5e6b15d855c2efa1b7e1e0ae28f353569c", func := "simproof/simprooflaw22.SerialEdges", spec := "serialEdges", unfollowed := true, recurses := true, plainKeys := false, apart := false, narrowed := true }
def SerialEdgesUptoSaid : Prop := serialEdgesUptoRow.holds Try.pinned (OpenSpec.upto serialEdgesSpec)

/-- 'simprooflaw22.SerialExact', WHERE WHAT IT READS IS OF BULK AT MOST 1048576: true; the input reads as it did. -/
def serialExactUptoRow : OpenClaim := { program := "ytfegkbmnclhljaa", sum := "5e356b670fdf126b14967c105dd5ab5e6b15d855c2efa1b7e1e0ae28f353569c", func := "simproof/simprooflaw22.SerialExact", spec := "serialExact", unfollowed := true, recurses := true, plainKeys := false, apart := false, narrowed := true }
def SerialExactUptoSaid : Prop := serialExactUptoRow.holds Try.pinned (OpenSpec.upto serialExactSpec)

/-- 'simprooflaw22.SerialOrder', WHERE WHAT IT READS IS OF BULK AT MOST 1048576: true; the input reads as it did. -/
def serialOrderUptoRow : OpenClaim := { program := "ytfegkbmnclhljaa", sum := "5e356b670fdf126b14967c105dd5ab5e6b15d855c2efa1b7e1e0ae28f353569c", func := "simproof/simprooflaw22.SerialOrder", spec := "serialOrder", unfollowed := true, recurses := true, plainKeys := false, apart := false, narrowed := true }
def SerialOrderUptoSaid : Prop := serialOrderUptoRow.holds Try.pinned (OpenSpec.upto serialOrderSpec)

/-- 'simprooflaw22.SerialCycles', WHERE WHAT IT READS IS OF BULK AT MOST 1048576: true; the input reads as it did. -/
def serialCyclesUptoRow : OpenClaim := { program := "ytfegkbmnclhljaa", sum := "5e356b670fdf126b14967c105dd5ab5e6b15d855c2efa1b7e1e0ae28f353569c", func := "simproof/simprooflaw22.SerialCycles", spec := "serialCycles", unfollowed := true, recurses := true, plainKeys := false, apart := false, narrowed := true }
def SerialCyclesUptoSaid : Prop := serialCyclesUptoRow.holds Try.pinned (OpenSpec.upto serialCyclesSpec)

/-- 'simprooflaw22.SerialStrict', WHERE WHAT IT READS IS OF BULK AT MOST 1048576: true; the input reads as it did. -/
def serialStrictUptoRow : OpenClaim := { program := "ytfegkbmnclhljaa", sum := "5e356b670fdf126b14967c105dd5ab5e6b15d855c2efa1b7e1e0ae28f353569c", func := "simproof/simprooflaw22.SerialStrict", spec := "serialStrict", unfollowed := true, recurses := true, plainKeys := false, apart := false, narrowed := true }
def SerialStrictUptoSaid : Prop := serialStrictUptoRow.holds Try.pinned (OpenSpec.upto serialStrictSpec)

/-- 'simprooflaw22.SerialAtomic', WHERE WHAT IT READS IS OF BULK AT MOST 1048576: true; the input reads as it did. -/
def serialAtomicUptoRow : OpenClaim := { program := "ytfegkbmnclhljaa", sum := "5e356b670fdf126b14967c105dd5ab5e6b15d855c2efa1b7e1e0ae28f353569c", func := "simproof/simprooflaw22.SerialAtomic", spec := "serialAtomic", unfollowed := true, recurses := true, plainKeys := false, apart := false, narrowed := true }
def SerialAtomicUptoSaid : Prop := serialAtomicUptoRow.holds Try.pinned (OpenSpec.upto serialAtomicSpec)

/-- 'simprooflaw22.SerialOwn', WHERE WHAT IT READS IS OF BULK AT MOST 1048576: true; the input reads as it did. -/
def serialOwnUptoRow : OpenClaim := { program := "ytfegkbmnclhljaa", sum := "5e356b670fdf126b14967c105dd5ab5e6b15d855c2efa1b7e1e0ae28f353569c", func := "simproof/simprooflaw22.SerialOwn", spec := "serialOwn", unfollowed := true, recurses := true, plainKeys := false, apart := false, narrowed := true }
def SerialOwnUptoSaid : Prop := serialOwnUptoRow.holds Try.pinned (OpenSpec.upto serialOwnSpec)

/-- 'simprooflaw22.SerialLocal', WHERE WHAT IT READS IS OF BULK AT MOST 1048576: true; the input reads as it did. -/
def serialLocalUptoRow : OpenClaim := { program := "ytfegkbmnclhljaa", sum := "5e356b670fdf126b14967c105dd5ab5e6b15d855c2efa1b7e1e0ae28f353569c", func := "simproof/simprooflaw22.SerialLocal", spec := "serialLocal", unfollowed := true, recurses := true, plainKeys := false, apart := false, narrowed := true }
def SerialLocalUptoSaid : Prop := serialLocalUptoRow.holds Try.pinned (OpenSpec.upto serialLocalSpec)

/-- 'simprooflaw22.SerialVerdicts', WHERE WHAT IT READS IS OF BULK AT MOST 1048576: true; the input reads as it did. -/
def serialVerdictsUptoRow : OpenClaim := { program := "ytfegkbmnclhljaa", sum := "5e356b670fdf126b14967c105dd5ab5e6b15d855c2efa1b7e1e0ae28f353569c", func := "simproof/simprooflaw22.SerialVerdicts", spec := "serialVerdicts", unfollowed := true, recurses := true, plainKeys := false, apart := false, narrowed := true }
def SerialVerdictsUptoSaid : Prop := serialVerdictsUptoRow.holds Try.pinned (OpenSpec.upto serialVerdictsSpec)

end Rows
end Go.Proofs.Ytfegkbmnclhljaa
