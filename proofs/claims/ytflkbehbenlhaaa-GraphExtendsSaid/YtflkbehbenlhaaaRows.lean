/-
  No cell of these rows narrows 'for every input' (looked for: loops, veiled, ifaces, maps, wideKeys, modest, calm, conditions, laid).
  DERIVED. THE GIVEN ROWS OF THIS SEAT. 12 by the template 'for every input the law returns true; each argument reads behind the call as it read before'; 0 by the template 'total and deterministic' (their statements: YtflkbehbenlhaaaTotals.lean).
  GIVEN WITH THE SEED: the statements are not yours to turn. If you find one false, say at which input.
  Laid BY PROGRAM, IN A SANDBOX (cutbox-rows.mjs): the forced cells as the released guide's own fill.sh prints them over the translation c77cc2026a2cb79f… (all of the seat's roots in one cut). By AI agents, Wed Nov 11 2026. No macro, syntax, notation, axiom, sorry.
-/
import Derived.Test.YtflkbehbenlhaaaChecked
import GoSem.Claim
import GoSem.ClaimJoined
import GoSem.ClaimMapViews
import Derived.JoinedTies
import Derived.KernelRfl
namespace Go.Proofs.Ytflkbehbenlhaaa
/- THE CELL 'sum', in the pinned program and in every row, IS THE sha256 OF THE DUMP (.gsa) THAT YtflkbehbenlhaaaProg.lean LOADS. Nothing in Lean hashes anything: it is a label: what it is worth is what the hold of that sum in a sandbox is worth. -/
noncomputable def Try.pinned : Pinned := { name := "ytflkbehbenlhaaa", sum := "c77cc2026a2cb79f57133193b608852f6280fbbcf4a8ff12daa3de9e8921413f", checked := Try.checked }
namespace Rows
def none {H : Type} : Left H := { results := [], args := [] }

/-- 'simprooflaw20.HistoryIndices': WHATEVER THE INPUT: true; the input reads as it did. -/
def historyIndicesSpec : ChangeSpec := { name := "historyIndices", fn := fun _ => fun
  | [d1, d2, d3, d4, d5] => { results := [.lit (.bool true)], args := [d1, d2, d3, d4, d5] }
  | _ => none }
def historyIndicesRow : OpenClaim := { program := "ytflkbehbenlhaaa", sum := "c77cc2026a2cb79f57133193b608852f6280fbbcf4a8ff12daa3de9e8921413f", func := "simproof/simprooflaw20.HistoryIndices", spec := "historyIndices", unfollowed := true, recurses := true, plainKeys := false, apart := false }
def HistoryIndicesSaid : Prop := historyIndicesRow.holds Try.pinned (OpenSpec.ofChange historyIndicesSpec)

/-- ITS FALSE NEIGHBOUR: 'it returns false'. Refute it at one input. -/
def historyIndicesWrong : ChangeSpec := { name := "historyIndices", fn := fun _ => fun
  | [d1, d2, d3, d4, d5] => { results := [.lit (.bool false)], args := [d1, d2, d3, d4, d5] }
  | _ => none }
def HistoryIndicesWrongFalsely : Prop := historyIndicesRow.holds Try.pinned (OpenSpec.ofChange historyIndicesWrong)

/-- 'simprooflaw20.HistoryParts': WHATEVER THE INPUT: true; the input reads as it did. -/
def historyPartsSpec : ChangeSpec := { name := "historyParts", fn := fun _ => fun
  | [d1, d2] => { results := [.lit (.bool true)], args := [d1, d2] }
  | _ => none }
def historyPartsRow : OpenClaim := { program := "ytflkbehbenlhaaa", sum := "c77cc2026a2cb79f57133193b608852f6280fbbcf4a8ff12daa3de9e8921413f", func := "simproof/simprooflaw20.HistoryParts", spec := "historyParts", unfollowed := true, recurses := true, plainKeys := false, apart := false }
def HistoryPartsSaid : Prop := historyPartsRow.holds Try.pinned (OpenSpec.ofChange historyPartsSpec)

/-- ITS FALSE NEIGHBOUR: 'it returns false'. Refute it at one input. -/
def historyPartsWrong : ChangeSpec := { name := "historyParts", fn := fun _ => fun
  | [d1, d2] => { results := [.lit (.bool false)], args := [d1, d2] }
  | _ => none }
def HistoryPartsWrongFalsely : Prop := historyPartsRow.holds Try.pinned (OpenSpec.ofChange historyPartsWrong)

/-- 'simprooflaw24.OnceKeys': WHATEVER THE INPUT: true; the input reads as it did. -/
def onceKeysSpec : ChangeSpec := { name := "onceKeys", fn := fun _ => fun
  | [d1, d2, d3] => { results := [.lit (.bool true)], args := [d1, d2, d3] }
  | _ => none }
def onceKeysRow : OpenClaim := { program := "ytflkbehbenlhaaa", sum := "c77cc2026a2cb79f57133193b608852f6280fbbcf4a8ff12daa3de9e8921413f", func := "simproof/simprooflaw24.OnceKeys", spec := "onceKeys", unfollowed := true, recurses := true, plainKeys := false, apart := false }
def OnceKeysSaid : Prop := onceKeysRow.holds Try.pinned (OpenSpec.ofChange onceKeysSpec)

/-- ITS FALSE NEIGHBOUR: 'it returns false'. Refute it at one input. -/
def onceKeysWrong : ChangeSpec := { name := "onceKeys", fn := fun _ => fun
  | [d1, d2, d3] => { results := [.lit (.bool false)], args := [d1, d2, d3] }
  | _ => none }
def OnceKeysWrongFalsely : Prop := onceKeysRow.holds Try.pinned (OpenSpec.ofChange onceKeysWrong)

/-- 'simprooflaw03.GraphTopo': WHATEVER THE INPUT: true; the input reads as it did. -/
def graphTopoSpec : ChangeSpec := { name := "graphTopo", fn := fun _ => fun
  | [d1, d2] => { results := [.lit (.bool true)], args := [d1, d2] }
  | _ => none }
def graphTopoRow : OpenClaim := { program := "ytflkbehbenlhaaa", sum := "c77cc2026a2cb79f57133193b608852f6280fbbcf4a8ff12daa3de9e8921413f", func := "simproof/simprooflaw03.GraphTopo", spec := "graphTopo", unfollowed := true, recurses := true, plainKeys := false, apart := false }
def GraphTopoSaid : Prop := graphTopoRow.holds Try.pinned (OpenSpec.ofChange graphTopoSpec)

/-- ITS FALSE NEIGHBOUR: 'it returns false'. Refute it at one input. -/
def graphTopoWrong : ChangeSpec := { name := "graphTopo", fn := fun _ => fun
  | [d1, d2] => { results := [.lit (.bool false)], args := [d1, d2] }
  | _ => none }
def GraphTopoWrongFalsely : Prop := graphTopoRow.holds Try.pinned (OpenSpec.ofChange graphTopoWrong)

/-- 'simprooflaw03.GraphCycle': WHATEVER THE INPUT: true; the input reads as it did. -/
def graphCycleSpec : ChangeSpec := { name := "graphCycle", fn := fun _ => fun
  | [d1, d2] => { results := [.lit (.bool true)], args := [d1, d2] }
  | _ => none }
def graphCycleRow : OpenClaim := { program := "ytflkbehbenlhaaa", sum := "c77cc2026a2cb79f57133193b608852f6280fbbcf4a8ff12daa3de9e8921413f", func := "simproof/simprooflaw03.GraphCycle", spec := "graphCycle", unfollowed := true, recurses := true, plainKeys := false, apart := false }
def GraphCycleSaid : Prop := graphCycleRow.holds Try.pinned (OpenSpec.ofChange graphCycleSpec)

/-- ITS FALSE NEIGHBOUR: 'it returns false'. Refute it at one input. -/
def graphCycleWrong : ChangeSpec := { name := "graphCycle", fn := fun _ => fun
  | [d1, d2] => { results := [.lit (.bool false)], args := [d1, d2] }
  | _ => none }
def GraphCycleWrongFalsely : Prop := graphCycleRow.holds Try.pinned (OpenSpec.ofChange graphCycleWrong)

/-- 'simprooflaw03.GraphReach': WHATEVER THE INPUT: true; the input reads as it did. -/
def graphReachSpec : ChangeSpec := { name := "graphReach", fn := fun _ => fun
  | [d1, d2, d3, d4] => { results := [.lit (.bool true)], args := [d1, d2, d3, d4] }
  | _ => none }
def graphReachRow : OpenClaim := { program := "ytflkbehbenlhaaa", sum := "c77cc2026a2cb79f57133193b608852f6280fbbcf4a8ff12daa3de9e8921413f", func := "simproof/simprooflaw03.GraphReach", spec := "graphReach", unfollowed := true, recurses := true, plainKeys := false, apart := false }
def GraphReachSaid : Prop := graphReachRow.holds Try.pinned (OpenSpec.ofChange graphReachSpec)

/-- ITS FALSE NEIGHBOUR: 'it returns false'. Refute it at one input. -/
def graphReachWrong : ChangeSpec := { name := "graphReach", fn := fun _ => fun
  | [d1, d2, d3, d4] => { results := [.lit (.bool false)], args := [d1, d2, d3, d4] }
  | _ => none }
def GraphReachWrongFalsely : Prop := graphReachRow.holds Try.pinned (OpenSpec.ofChange graphReachWrong)

/-- 'simprooflaw03.GraphExtends': WHATEVER THE INPUT: true; the input reads as it did. -/
def graphExtendsSpec : ChangeSpec := { name := "graphExtends", fn := fun _ => fun
  | [d1, d2, d3, d4] => { results := [.lit (.bool true)], args := [d1, d2, d3, d4] }
  | _ => none }
def graphExtendsRow : OpenClaim := { program := "ytflkbehbenlhaaa", sum := "c77cc2026a2cb79f57133193b608852f6280fbbcf4a8ff12daa3de9e8921413f", func := "simproof/simprooflaw03.GraphExtends", spec := "graphExtends", unfollowed := true, recurses := true, plainKeys := false, apart := false }
def GraphExtendsSaid : Prop := graphExtendsRow.holds Try.pinned (OpenSpec.ofChange graphExtendsSpec)

/-- ITS FALSE NEIGHBOUR: 'it returns false'. Refute it at one input. -/
def graphExtendsWrong : ChangeSpec := { name := "graphExtends", fn := fun _ => fun
  | [d1, d2, d3, d4] => { results := [.lit (.bool false)], args := [d1, d2, d3, d4] }
  | _ => none }
def GraphExtendsWrongFalsely : Prop := graphExtendsRow.holds Try.pinned (OpenSpec.ofChange graphExtendsWrong)

/-- 'simprooflaw20.HistoryOrder': WHATEVER THE INPUT: true; the input reads as it did. -/
def historyOrderSpec : ChangeSpec := { name := "historyOrder", fn := fun _ => fun
  | [d1, d2] => { results := [.lit (.bool true)], args := [d1, d2] }
  | _ => none }
def historyOrderRow : OpenClaim := { program := "ytflkbehbenlhaaa", sum := "c77cc2026a2cb79f57133193b608852f6280fbbcf4a8ff12daa3de9e8921413f", func := "simproof/simprooflaw20.HistoryOrder", spec := "historyOrder", unfollowed := true, recurses := true, plainKeys := false, apart := false }
def HistoryOrderSaid : Prop := historyOrderRow.holds Try.pinned (OpenSpec.ofChange historyOrderSpec)

/-- ITS FALSE NEIGHBOUR: 'it returns false'. Refute it at one input. -/
def historyOrderWrong : ChangeSpec := { name := "historyOrder", fn := fun _ => fun
  | [d1, d2] => { results := [.lit (.bool false)], args := [d1, d2] }
  | _ => none }
def HistoryOrderWrongFalsely : Prop := historyOrderRow.holds Try.pinned (OpenSpec.ofChange historyOrderWrong)

/-- 'simprooflaw03.GraphComponents': WHATEVER THE INPUT: true; the input reads as it did. -/
def graphComponentsSpec : ChangeSpec := { name := "graphComponents", fn := fun _ => fun
  | [d1, d2] => { results := [.lit (.bool true)], args := [d1, d2] }
  | _ => none }
def graphComponentsRow : OpenClaim := { program := "ytflkbehbenlhaaa", sum := "c77cc2026a2cb79f57133193b608852f6280fbbcf4a8ff12daa3de9e8921413f", func := "simproof/simprooflaw03.GraphComponents", spec := "graphComponents", unfollowed := true, recurses := true, plainKeys := false, apart := false }
def GraphComponentsSaid : Prop := graphComponentsRow.holds Try.pinned (OpenSpec.ofChange graphComponentsSpec)

/-- ITS FALSE NEIGHBOUR: 'it returns false'. Refute it at one input. -/
def graphComponentsWrong : ChangeSpec := { name := "graphComponents", fn := fun _ => fun
  | [d1, d2] => { results := [.lit (.bool false)], args := [d1, d2] }
  | _ => none }
def GraphComponentsWrongFalsely : Prop := graphComponentsRow.holds Try.pinned (OpenSpec.ofChange graphComponentsWrong)

/-- 'simprooflaw03.GraphAcyclic': WHATEVER THE INPUT: true; the input reads as it did. -/
def graphAcyclicSpec : ChangeSpec := { name := "graphAcyclic", fn := fun _ => fun
  | [d1, d2] => { results := [.lit (.bool true)], args := [d1, d2] }
  | _ => none }
def graphAcyclicRow : OpenClaim := { program := "ytflkbehbenlhaaa", sum := "c77cc2026a2cb79f57133193b608852f6280fbbcf4a8ff12daa3de9e8921413f", func := "simproof/simprooflaw03.GraphAcyclic", spec := "graphAcyclic", unfollowed := true, recurses := true, plainKeys := false, apart := false }
def GraphAcyclicSaid : Prop := graphAcyclicRow.holds Try.pinned (OpenSpec.ofChange graphAcyclicSpec)

/-- ITS FALSE NEIGHBOUR: 'it returns false'. Refute it at one input. -/
def graphAcyclicWrong : ChangeSpec := { name := "graphAcyclic", fn := fun _ => fun
  | [d1, d2] => { results := [.lit (.bool false)], args := [d1, d2] }
  | _ => none }
def GraphAcyclicWrongFalsely : Prop := graphAcyclicRow.holds Try.pinned (OpenSpec.ofChange graphAcyclicWrong)

/-- 'simprooflaw03.GraphClosure': WHATEVER THE INPUT: true; the input reads as it did. -/
def graphClosureSpec : ChangeSpec := { name := "graphClosure", fn := fun _ => fun
  | [d1, d2, d3, d4] => { results := [.lit (.bool true)], args := [d1, d2, d3, d4] }
  | _ => none }
def graphClosureRow : OpenClaim := { program := "ytflkbehbenlhaaa", sum := "c77cc2026a2cb79f57133193b608852f6280fbbcf4a8ff12daa3de9e8921413f", func := "simproof/simprooflaw03.GraphClosure", spec := "graphClosure", unfollowed := true, recurses := true, plainKeys := false, apart := false }
def GraphClosureSaid : Prop := graphClosureRow.holds Try.pinned (OpenSpec.ofChange graphClosureSpec)

/-- ITS FALSE NEIGHBOUR: 'it returns false'. Refute it at one input. -/
def graphClosureWrong : ChangeSpec := { name := "graphClosure", fn := fun _ => fun
  | [d1, d2, d3, d4] => { results := [.lit (.bool false)], args := [d1, d2, d3, d4] }
  | _ => none }
def GraphClosureWrongFalsely : Prop := graphClosureRow.holds Try.pinned (OpenSpec.ofChange graphClosureWrong)

/-- 'simprooflaw03.GraphEdges': WHATEVER THE INPUT: true; the input reads as it did. -/
def graphEdgesSpec : ChangeSpec := { name := "graphEdges", fn := fun _ => fun
  | [d1, d2, d3] => { results := [.lit (.bool true)], args := [d1, d2, d3] }
  | _ => none }
def graphEdgesRow : OpenClaim := { program := "ytflkbehbenlhaaa", sum := "c77cc2026a2cb79f57133193b608852f6280fbbcf4a8ff12daa3de9e8921413f", func := "simproof/simprooflaw03.GraphEdges", spec := "graphEdges", unfollowed := true, recurses := true, plainKeys := false, apart := false }
def GraphEdgesSaid : Prop := graphEdgesRow.holds Try.pinned (OpenSpec.ofChange graphEdgesSpec)

/-- ITS FALSE NEIGHBOUR: 'it returns false'. Refute it at one input. -/
def graphEdgesWrong : ChangeSpec := { name := "graphEdges", fn := fun _ => fun
  | [d1, d2, d3] => { results := [.lit (.bool false)], args := [d1, d2, d3] }
  | _ => none }
def GraphEdgesWrongFalsely : Prop := graphEdgesRow.holds Try.pinned (OpenSpec.ofChange graphEdgesWrong)

/- THE SECOND FORM. 'bulk': how many values and letters a reading holds, each counted each time it is reached (what is shared counts as often as it is met; a slice's spare places count too). A statement '..UptoSaid' is the law's where the arguments, and the package variables that the reading takes, are together of bulk at most 1048576: NARROWER than '..Said'. Prove '..Said' where nothing that the law and all that it calls make is longer than what came in: it says more and counts as full. Else prove '..UptoSaid'. A law counts once. -/
mutual
def uptoBulk {H : Type} : DataW H → Nat
  | .lit (.string bytes) => bytes.length + 1
  | .lit _ => 1
  | .nil => 1
  | .ptr d => uptoBulk d + 1
  | .slice elems spare => uptoBulkAll elems + uptoBulkAll spare + 1
  | .agg parts => uptoBulkAll parts + 1
  | .iface _ d => uptoBulk d + 1
  | .map entries => uptoBulkEntries entries + 1
  | .held _ => 1
def uptoBulkAll {H : Type} : List (DataW H) → Nat
  | [] => 0
  | d :: r => uptoBulk d + uptoBulkAll r
def uptoBulkEntries {H : Type} : List (Lit × DataW H) → Nat
  | [] => 0
  | x :: r => uptoBulkEntry x + uptoBulkEntries r
def uptoBulkEntry {H : Type} : Lit × DataW H → Nat
  | (.string bytes, d) => bytes.length + uptoBulk d + 1
  | (_, d) => uptoBulk d + 1
 end
def uptoSmall : (H : Type) → List (DataW H) → Bool := fun _ ds => decide (uptoBulkAll ds ≤ 1048576)
def OpenSpec.upto (s : _root_.Go.ChangeSpec) : _root_.Go.OpenSpec := { _root_.Go.OpenSpec.ofChange s with cond := some uptoSmall }

/-- 'simprooflaw20.HistoryIndices', WHERE WHAT IT READS IS OF BULK AT MOST 1048576: true; the input reads as it did. -/
def historyIndicesUptoRow : OpenClaim := { program := "ytflkbehbenlhaaa", sum := "c77cc2026a2cb79f57133193b608852f6280fbbcf4a8ff12daa3de9e8921413f", func := "simproof/simprooflaw20.HistoryIndices", spec := "historyIndices", unfollowed := true, recurses := true, plainKeys := false, apart := false, narrowed := true }
def HistoryIndicesUptoSaid : Prop := historyIndicesUptoRow.holds Try.pinned (OpenSpec.upto historyIndicesSpec)

/-- 'simprooflaw20.HistoryParts', WHERE WHAT IT READS IS OF BULK AT MOST 1048576: true; the input reads as it did. -/
def historyPartsUptoRow : OpenClaim := { program := "ytflkbehbenlhaaa", sum := "c77cc2026a2cb79f57133193b608852f6280fbbcf4a8ff12daa3de9e8921413f", func := "simproof/simprooflaw20.HistoryParts", spec := "historyParts", unfollowed := true, recurses := true, plainKeys := false, apart := false, narrowed := true }
def HistoryPartsUptoSaid : Prop := historyPartsUptoRow.holds Try.pinned (OpenSpec.upto historyPartsSpec)

/-- 'simprooflaw24.OnceKeys', WHERE WHAT IT READS IS OF BULK AT MOST 1048576: true; the input reads as it did. -/
def onceKeysUptoRow : OpenClaim := { program := "ytflkbehbenlhaaa", sum := "c77cc2026a2cb79f57133193b608852f6280fbbcf4a8ff12daa3de9e8921413f", func := "simproof/simprooflaw24.OnceKeys", spec := "onceKeys", unfollowed := true, recurses := true, plainKeys := false, apart := false, narrowed := true }
def OnceKeysUptoSaid : Prop := onceKeysUptoRow.holds Try.pinned (OpenSpec.upto onceKeysSpec)

/-- 'simprooflaw03.GraphTopo', WHERE WHAT IT READS IS OF BULK AT MOST 1048576: true; the input reads as it did. -/
def graphTopoUptoRow : OpenClaim := { program := "ytflkbehbenlhaaa", sum := "c77cc2026a2cb79f57133193b608852f6280fbbcf4a8ff12daa3de9e8921413f", func := "simproof/simprooflaw03.GraphTopo", spec := "graphTopo", unfollowed := true, recurses := true, plainKeys := false, apart := false, narrowed := true }
def GraphTopoUptoSaid : Prop := graphTopoUptoRow.holds Try.pinned (OpenSpec.upto graphTopoSpec)

/-- 'simprooflaw03.GraphCycle', WHERE WHAT IT READS IS OF BULK AT MOST 1048576: true; the input reads as it did. -/
def graphCycleUptoRow : OpenClaim := { program := "ytflkbehbenlhaaa", sum := "c77cc2026a2cb79f57133193b608852f6280fbbcf4a8ff12daa3de9e8921413f", func := "simproof/simprooflaw03.GraphCycle", spec := "graphCycle", unfollowed := true, recurses := true, plainKeys := false, apart := false, narrowed := true }
def GraphCycleUptoSaid : Prop := graphCycleUptoRow.holds Try.pinned (OpenSpec.upto graphCycleSpec)

/-- 'simprooflaw03.GraphReach', WHERE WHAT IT READS IS OF BULK AT MOST 1048576: true; the input reads as it did. -/
def graphReachUptoRow : OpenClaim := { program := "ytflkbehbenlhaaa", sum := "c77cc2026a2cb79f57133193b608852f6280fbbcf4a8ff12daa3de9e8921413f", func := "simproof/simprooflaw03.GraphReach", spec := "graphReach", unfollowed := true, recurses := true, plainKeys := false, apart := false, narrowed := true }
def GraphReachUptoSaid : Prop := graphReachUptoRow.holds Try.pinned (OpenSpec.upto graphReachSpec)

/-- 'simprooflaw03.GraphExtends', WHERE WHAT IT READS IS OF BULK AT MOST 1048576: true; the input reads as it did. -/
def graphExtendsUptoRow : OpenClaim := { program := "ytflkbehbenlhaaa", sum := "c77cc2026a2cb79f57133193b608852f6280fbbcf4a8ff12daa3de9e8921413f", func := "simproof/simprooflaw03.GraphExtends", spec := "graphExtends", unfollowed := true, recurses := true, plainKeys := false, apart := false, narrowed := true }
def GraphExtendsUptoSaid : Prop := graphExtendsUptoRow.holds Try.pinned (OpenSpec.upto graphExtendsSpec)

/-- 'simprooflaw20.HistoryOrder', WHERE WHAT IT READS IS OF BULK AT MOST 1048576: true; the input reads as it did. -/
def historyOrderUptoRow : OpenClaim := { program := "ytflkbehbenlhaaa", sum := "c77cc2026a2cb79f57133193b608852f6280fbbcf4a8ff12daa3de9e8921413f", func := "simproof/simprooflaw20.HistoryOrder", spec := "historyOrder", unfollowed := true, recurses := true, plainKeys := false, apart := false, narrowed := true }
def HistoryOrderUptoSaid : Prop := historyOrderUptoRow.holds Try.pinned (OpenSpec.upto historyOrderSpec)

/-- 'simprooflaw03.GraphComponents', WHERE WHAT IT READS IS OF BULK AT MOST 1048576: true; the input reads as it did. -/
def graphComponentsUptoRow : OpenClaim := { program := "ytflkbehbenlhaaa", sum := "c77cc2026a2cb79f57133193b608852f6280fbbcf4a8ff12daa3de9e8921413f", func := "simproof/simprooflaw03.GraphComponents", spec := "graphComponents", unfollowed := true, recurses := true, plainKeys := false, apart := false, narrowed := true }
def GraphComponentsUptoSaid : Prop := graphComponentsUptoRow.holds Try.pinned (OpenSpec.upto graphComponentsSpec)

/-- 'simprooflaw03.GraphAcyclic', WHERE WHAT IT READS IS OF BULK AT MOST 1048576: true; the input reads as it did. -/
def graphAcyclicUptoRow : OpenClaim := { program := "ytflkbehbenlhaaa", sum := "c77cc2026a2cb79f57133193b608852f6280fbbcf4a8ff12daa3de9e8921413f", func := "simproof/simprooflaw03.GraphAcyclic", spec := "graphAcyclic", unfollowed := true, recurses := true, plainKeys := false, apart := false, narrowed := true }
def GraphAcyclicUptoSaid : Prop := graphAcyclicUptoRow.holds Try.pinned (OpenSpec.upto graphAcyclicSpec)

/-- 'simprooflaw03.GraphClosure', WHERE WHAT IT READS IS OF BULK AT MOST 1048576: true; the input reads as it did. -/
def graphClosureUptoRow : OpenClaim := { program := "ytflkbehbenlhaaa", sum := "c77cc2026a2cb79f57133193b608852f6280fbbcf4a8ff12daa3de9e8921413f", func := "simproof/simprooflaw03.GraphClosure", spec := "graphClosure", unfollowed := true, recurses := true, plainKeys := false, apart := false, narrowed := true }
def GraphClosureUptoSaid : Prop := graphClosureUptoRow.holds Try.pinned (OpenSpec.upto graphClosureSpec)

/-- 'simprooflaw03.GraphEdges', WHERE WHAT IT READS IS OF BULK AT MOST 1048576: true; the input reads as it did. -/
def graphEdgesUptoRow : OpenClaim := { program := "ytflkbehbenlhaaa", sum := "c77cc2026a2cb79f57133193b608852f6280fbbcf4a8ff12daa3de9e8921413f", func := "simproof/simprooflaw03.GraphEdges", spec := "graphEdges", unfollowed := true, recurses := true, plainKeys := false, apart := false, narrowed := true }
def GraphEdgesUptoSaid : Prop := graphEdgesUptoRow.holds Try.pinned (OpenSpec.upto graphEdgesSpec)

end Rows
end Go.Proofs.Ytflkbehbenlhaaa
