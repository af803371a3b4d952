/-
  No cell of these rows narrows 'for every input' (looked for: loops, veiled, ifaces, maps, wideKeys, modest, calm, conditions, laid).
  DERIVED. THE GIVEN ROWS OF THIS SEAT. 4 by the template 'for every input the law returns true; each argument reads behind the call as it read before'; 0 by the template 'total and deterministic' (their statements: YthjplkjpehdpfaaTotals.lean).
  GIVEN WITH THE SEED: the statements are not yours to turn. If you find one false, say at which input.
  Laid BY PROGRAM, IN A SANDBOX (cutbox-rows.mjs): the forced cells as the released guide's own fill.sh prints them over the translation 2400e21eaa638e26… (all of the seat's roots in one cut). By AI agents, Wed Nov 11 2026. No macro, syntax, notation, axiom, sorry.
-/
import Derived.Test.YthjplkjpehdpfaaChecked
import GoSem.Claim
import GoSem.ClaimJoined
import GoSem.ClaimMapViews
import Derived.JoinedTies
import Derived.KernelRfl
namespace Go.Proofs.Ythjplkjpehdpfaa
/- THE CELL 'sum', in the pinned program and in every row, IS THE sha256 OF THE DUMP (.gsa) THAT YthjplkjpehdpfaaProg.lean LOADS. Nothing in Lean hashes anything: it is a label: what it is worth is what the hold of that sum in a sandbox is worth. -/
noncomputable def Try.pinned : Pinned := { name := "ythjplkjpehdpfaa", sum := "2400e21eaa638e26846aaaa7f411823817bb1190687c85e17af568a5b3a8f54e", checked := Try.checked }
namespace Rows
def none {H : Type} : Left H := { results := [], args := [] }

/-- 'simprooflaw03.GraphComponents': WHATEVER THE INPUT: true; the input reads as it did. -/
def graphComponentsSpec : ChangeSpec := { name := "graphComponents", fn := fun _ => fun
  | [d1, d2] => { results := [.lit (.bool true)], args := [d1, d2] }
  | _ => none }
def graphComponentsRow : OpenClaim := { program := "ythjplkjpehdpfaa", sum := "2400e21eaa638e26846aaaa7f411823817bb1190687c85e17af568a5b3a8f54e", func := "simproof/simprooflaw03.GraphComponents", spec := "graphComponents", unfollowed := true, recurses := true, apart := false }
def GraphComponentsSaid : Prop := graphComponentsRow.holds Try.pinned (OpenSpec.ofChange graphComponentsSpec)

/-- ITS FALSE NEIGHBOUR: 'it returns false'. Refute it at one input. -/
def graphComponentsWrong : ChangeSpec := { name := "graphComponents", fn := fun _ => fun
  | [d1, d2] => { results := [.lit (.bool false)], args := [d1, d2] }
  | _ => none }
def GraphComponentsWrongFalsely : Prop := graphComponentsRow.holds Try.pinned (OpenSpec.ofChange graphComponentsWrong)

/-- 'simprooflaw03.GraphAcyclic': WHATEVER THE INPUT: true; the input reads as it did. -/
def graphAcyclicSpec : ChangeSpec := { name := "graphAcyclic", fn := fun _ => fun
  | [d1, d2] => { results := [.lit (.bool true)], args := [d1, d2] }
  | _ => none }
def graphAcyclicRow : OpenClaim := { program := "ythjplkjpehdpfaa", sum := "2400e21eaa638e26846aaaa7f411823817bb1190687c85e17af568a5b3a8f54e", func := "simproof/simprooflaw03.GraphAcyclic", spec := "graphAcyclic", unfollowed := true, recurses := true, apart := false }
def GraphAcyclicSaid : Prop := graphAcyclicRow.holds Try.pinned (OpenSpec.ofChange graphAcyclicSpec)

/-- ITS FALSE NEIGHBOUR: 'it returns false'. Refute it at one input. -/
def graphAcyclicWrong : ChangeSpec := { name := "graphAcyclic", fn := fun _ => fun
  | [d1, d2] => { results := [.lit (.bool false)], args := [d1, d2] }
  | _ => none }
def GraphAcyclicWrongFalsely : Prop := graphAcyclicRow.holds Try.pinned (OpenSpec.ofChange graphAcyclicWrong)

/-- 'simprooflaw03.GraphClosure': WHATEVER THE INPUT: true; the input reads as it did. -/
def graphClosureSpec : ChangeSpec := { name := "graphClosure", fn := fun _ => fun
  | [d1, d2, d3, d4] => { results := [.lit (.bool true)], args := [d1, d2, d3, d4] }
  | _ => none }
def graphClosureRow : OpenClaim := { program := "ythjplkjpehdpfaa", sum := "2400e21eaa638e26846aaaa7f411823817bb1190687c85e17af568a5b3a8f54e", func := "simproof/simprooflaw03.GraphClosure", spec := "graphClosure", unfollowed := true, recurses := true, apart := false }
def GraphClosureSaid : Prop := graphClosureRow.holds Try.pinned (OpenSpec.ofChange graphClosureSpec)

/-- ITS FALSE NEIGHBOUR: 'it returns false'. Refute it at one input. -/
def graphClosureWrong : ChangeSpec := { name := "graphClosure", fn := fun _ => fun
  | [d1, d2, d3, d4] => { results := [.lit (.bool false)], args := [d1, d2, d3, d4] }
  | _ => none }
def GraphClosureWrongFalsely : Prop := graphClosureRow.holds Try.pinned (OpenSpec.ofChange graphClosureWrong)

/-- 'simprooflaw03.GraphEdges': WHATEVER THE INPUT: true; the input reads as it did. -/
def graphEdgesSpec : ChangeSpec := { name := "graphEdges", fn := fun _ => fun
  | [d1, d2, d3] => { results := [.lit (.bool true)], args := [d1, d2, d3] }
  | _ => none }
def graphEdgesRow : OpenClaim := { program := "ythjplkjpehdpfaa", sum := "2400e21eaa638e26846aaaa7f411823817bb1190687c85e17af568a5b3a8f54e", func := "simproof/simprooflaw03.GraphEdges", spec := "graphEdges", unfollowed := true, recurses := true, apart := false }
def GraphEdgesSaid : Prop := graphEdgesRow.holds Try.pinned (OpenSpec.ofChange graphEdgesSpec)

/-- ITS FALSE NEIGHBOUR: 'it returns false'. Refute it at one input. -/
def graphEdgesWrong : ChangeSpec := { name := "graphEdges", fn := fun _ => fun
  | [d1, d2, d3] => { results := [.lit (.bool false)], args := [d1, d2, d3] }
  | _ => none }
def GraphEdgesWrongFalsely : Prop := graphEdgesRow.holds Try.pinned (OpenSpec.ofChange graphEdgesWrong)

/- THE SECOND FORM. 'bulk': how many values and letters a reading holds, each counted each time it is reached (what is shared counts as often as it is met; a slice's spare places count too). A statement '..UptoSaid' is the law's where the arguments, and the package variables that the reading takes, are together of bulk at most 1048576: NARROWER than '..Said'. Prove '..Said' where nothing that the law and all that it calls make is longer than what came in: it says more and counts as full. Else prove '..UptoSaid'. A law counts once. -/
mutual
def uptoBulk {H : Type} : DataW H → Nat
  | .lit (.string bytes) => bytes.length + 1
  | .lit _ => 1
  | .nil => 1
  | .ptr d => uptoBulk d + 1
  | .slice elems spare => uptoBulkAll elems + uptoBulkAll spare + 1
  | .agg parts => uptoBulkAll parts + 1
  | .iface _ d => uptoBulk d + 1
  | .map entries => uptoBulkEntries entries + 1
  | .held _ => 1
def uptoBulkAll {H : Type} : List (DataW H) → Nat
  | [] => 0
  | d :: r => uptoBulk d + uptoBulkAll r
def uptoBulkEntries {H : Type} : List (Lit × DataW H) → Nat
  | [] => 0
  | x :: r => uptoBulkEntry x + uptoBulkEntries r
def uptoBulkEntry {H : Type} : Lit × DataW H → Nat
  | (.string bytes, d) => bytes.length + uptoBulk d + 1
  | (_, d) => uptoBulk d + 1
 end
def uptoSmall : (H : Type) → List (DataW H) → Bool := fun _ ds => decide (uptoBulkAll ds ≤ 1048576)
def OpenSpec.upto (s : _root_.Go.ChangeSpec) : _root_.Go.OpenSpec := { _root_.Go.OpenSpec.ofChange s with cond := some uptoSmall }

/-- 'simprooflaw03.GraphComponents', WHERE WHAT IT READS IS OF BULK AT MOST 1048576: true; the input reads as it did. -/
def graphComponentsUptoRow : OpenClaim := { program := "ythjplkjpehdpfaa", sum := "2400e21eaa638e26846aaaa7f411823817bb1190687c85e17af568a5b3a8f54e", func := "simproof/simprooflaw03.GraphComponents", spec := "graphComponents", unfollowed := true, recurses := true, apart := false, narrowed := true }
def GraphComponentsUptoSaid : Prop := graphComponentsUptoRow.holds Try.pinned (OpenSpec.upto graphComponentsSpec)

/-- 'simprooflaw03.GraphAcyclic', WHERE WHAT IT READS IS OF BULK AT MOST 1048576: true; the input reads as it did. -/
def graphAcyclicUptoRow : OpenClaim := { program := "ythjplkjpehdpfaa", sum := "2400e21eaa638e26846aaaa7f411823817bb1190687c85e17af568a5b3a8f54e", func := "simproof/simprooflaw03.GraphAcyclic", spec := "graphAcyclic", unfollowed := true, recurses := true, apart := false, narrowed := true }
def GraphAcyclicUptoSaid : Prop := graphAcyclicUptoRow.holds Try.pinned (OpenSpec.upto graphAcyclicSpec)

/-- 'simprooflaw03.GraphClosure', WHERE WHAT IT READS IS OF BULK AT MOST 1048576: true; the input reads as it did. -/
def graphClosureUptoRow : OpenClaim := { program := "ythjplkjpehdpfaa", sum := "2400e21eaa638e26846aaaa7f411823817bb1190687c85e17af568a5b3a8f54e", func := "simproof/simprooflaw03.GraphClosure", spec := "graphClosure", unfollowed := true, recurses := true, apart := false, narrowed := true }
def GraphClosureUptoSaid : Prop := graphClosureUptoRow.holds Try.pinned (OpenSpec.upto graphClosureSpec)

/-- 'simprooflaw03.GraphEdges', WHERE WHAT IT READS IS OF BULK AT MOST 1048576: true; the input reads as it did. -/
def graphEdgesUptoRow : OpenClaim := { program := "ythjplkjpehdpfaa", sum := "2400e21eaa638e26846aaaa7f411823817bb1190687c85e17af568a5b3a8f54e", func := "simproof/simprooflaw03.GraphEdges", spec := "graphEdges", unfollowed := true, recurses := true, apart := false, narrowed := true }
def GraphEdgesUptoSaid : Prop := graphEdgesUptoRow.holds Try.pinned (OpenSpec.upto graphEdgesSpec)

end Rows
end Go.Proofs.Ythjplkjpehdpfaa
