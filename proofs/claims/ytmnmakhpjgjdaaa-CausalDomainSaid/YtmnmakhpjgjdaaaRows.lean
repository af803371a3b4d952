/-
  No cell of these rows narrows 'for every input' (looked for: loops, veiled, ifaces, maps, wideKeys, modest, calm, conditions, laid).
  DERIVED. THE GIVEN ROWS OF THIS SEAT. 7 by the template 'for every input the law returns true; each argument reads behind the call as it read before'; 0 by the template 'total and deterministic' (their statements: YtmnmakhpjgjdaaaTotals.lean).
  GIVEN WITH THE SEED: the statements are not yours to turn. If you find one false, say at which input.
  Laid BY PROGRAM, IN A SANDBOX (cutbox-rows.mjs): the forced cells as the released guide's own fill.sh prints them over the translation 3bc8e0036bf1de91… (all of the seat's roots in one cut). By AI agents, Wed Nov 11 2026. No macro, syntax, notation, axiom, sorry.
-/
import Derived.Test.YtmnmakhpjgjdaaaChecked
import GoSem.Claim
import GoSem.ClaimJoined
import GoSem.ClaimMapViews
import Derived.JoinedTies
import Derived.KernelRfl
namespace Go.Proofs.Ytmnmakhpjgjdaaa
/- THE CELL 'sum', in the pinned program and in every row, IS THE sha256 OF THE DUMP (.gsa) THAT YtmnmakhpjgjdaaaProg.lean LOADS. Nothing in Lean hashes anything: it is a label: what it is worth is what the hold of that sum in a sandbox is worth. -/
noncomputable def Try.pinned : Pinned := { name := "ytmnmakhpjgjdaaa", sum := "3bc8e0036bf1de91c4d6e2abb9bb6225d7292f56ac9fee158d61c4b0bb30ea42", checked := Try.checked }
namespace Rows
def none {H : Type} : Left H := { results := [], args := [] }

/-- 'simprooflaw23.CausalVerdicts': WHATEVER THE INPUT: true; the input reads as it did. -/
def causalVerdictsSpec : ChangeSpec := { name := "causalVerdicts", fn := fun _ => fun
  | [d1, d2, d3, d4] => { results := [.lit (.bool true)], args := [d1, d2, d3, d4] }
  | _ => none }
def causalVerdictsRow : OpenClaim := { program := "ytmnmakhpjgjdaaa", sum := "3bc8e0036bf1de91c4d6e2abb9bb6225d7292f56ac9fee158d61c4b0bb30ea42", func := "simproof/simprooflaw23.CausalVerdicts", spec := "causalVerdicts", unfollowed := true, recurses := true, plainKeys := false, apart := false }
def CausalVerdictsSaid : Prop := causalVerdictsRow.holds Try.pinned (OpenSpec.ofChange causalVerdictsSpec)

/-- ITS FALSE NEIGHBOUR: 'it returns false'. Refute it at one input. -/
def causalVerdictsWrong : ChangeSpec := { name := "causalVerdicts", fn := fun _ => fun
  | [d1, d2, d3, d4] => { results := [.lit (.bool false)], args := [d1, d2, d3, d4] }
  | _ => none }
def CausalVerdictsWrongFalsely : Prop := causalVerdictsRow.holds Try.pinned (OpenSpec.ofChange causalVerdictsWrong)

/-- 'simprooflaw23.CausalDomain': WHATEVER THE INPUT: true; the input reads as it did. -/
def causalDomainSpec : ChangeSpec := { name := "causalDomain", fn := fun _ => fun
  | [d1, d2] => { results := [.lit (.bool true)], args := [d1, d2] }
  | _ => none }
def causalDomainRow : OpenClaim := { program := "ytmnmakhpjgjdaaa", sum := "3bc8e0036bf1de91c4d6e2abb9bb6225d7292f56ac9fee158d61c4b0bb30ea42", func := "simproof/simprooflaw23.CausalDomain", spec := "causalDomain", unfollowed := true, recurses := true, plainKeys := false, apart := false }
def CausalDomainSaid : Prop := causalDomainRow.holds Try.pinned (OpenSpec.ofChange causalDomainSpec)

/-- ITS FALSE NEIGHBOUR: 'it returns false'. Refute it at one input. -/
def causalDomainWrong : ChangeSpec := { name := "causalDomain", fn := fun _ => fun
  | [d1, d2] => { results := [.lit (.bool false)], args := [d1, d2] }
  | _ => none }
def CausalDomainWrongFalsely : Prop := causalDomainRow.holds Try.pinned (OpenSpec.ofChange causalDomainWrong)

/-- 'simprooflaw23.CausalConsistent': WHATEVER THE INPUT: true; the input reads as it did. -/
def causalConsistentSpec : ChangeSpec := { name := "causalConsistent", fn := fun _ => fun
  | [d] => { results := [.lit (.bool true)], args := [d] }
  | _ => none }
def causalConsistentRow : OpenClaim := { program := "ytmnmakhpjgjdaaa", sum := "3bc8e0036bf1de91c4d6e2abb9bb6225d7292f56ac9fee158d61c4b0bb30ea42", func := "simproof/simprooflaw23.CausalConsistent", spec := "causalConsistent", unfollowed := true, recurses := true, plainKeys := false, apart := false }
def CausalConsistentSaid : Prop := causalConsistentRow.holds Try.pinned (OpenSpec.ofChange causalConsistentSpec)

/-- ITS FALSE NEIGHBOUR: 'it returns false'. Refute it at one input. -/
def causalConsistentWrong : ChangeSpec := { name := "causalConsistent", fn := fun _ => fun
  | [d] => { results := [.lit (.bool false)], args := [d] }
  | _ => none }
def CausalConsistentWrongFalsely : Prop := causalConsistentRow.holds Try.pinned (OpenSpec.ofChange causalConsistentWrong)

/-- 'simprooflaw23.CausalImplies': WHATEVER THE INPUT: true; the input reads as it did. -/
def causalImpliesSpec : ChangeSpec := { name := "causalImplies", fn := fun _ => fun
  | [d] => { results := [.lit (.bool true)], args := [d] }
  | _ => none }
def causalImpliesRow : OpenClaim := { program := "ytmnmakhpjgjdaaa", sum := "3bc8e0036bf1de91c4d6e2abb9bb6225d7292f56ac9fee158d61c4b0bb30ea42", func := "simproof/simprooflaw23.CausalImplies", spec := "causalImplies", unfollowed := true, recurses := true, plainKeys := false, apart := false }
def CausalImpliesSaid : Prop := causalImpliesRow.holds Try.pinned (OpenSpec.ofChange causalImpliesSpec)

/-- ITS FALSE NEIGHBOUR: 'it returns false'. Refute it at one input. -/
def causalImpliesWrong : ChangeSpec := { name := "causalImplies", fn := fun _ => fun
  | [d] => { results := [.lit (.bool false)], args := [d] }
  | _ => none }
def CausalImpliesWrongFalsely : Prop := causalImpliesRow.holds Try.pinned (OpenSpec.ofChange causalImpliesWrong)

/-- 'simprooflaw23.CausalProof': WHATEVER THE INPUT: true; the input reads as it did. -/
def causalProofSpec : ChangeSpec := { name := "causalProof", fn := fun _ => fun
  | [d] => { results := [.lit (.bool true)], args := [d] }
  | _ => none }
def causalProofRow : OpenClaim := { program := "ytmnmakhpjgjdaaa", sum := "3bc8e0036bf1de91c4d6e2abb9bb6225d7292f56ac9fee158d61c4b0bb30ea42", func := "simproof/simprooflaw23.CausalProof", spec := "causalProof", unfollowed := true, recurses := true, plainKeys := false, apart := false }
def CausalProofSaid : Prop := causalProofRow.holds Try.pinned (OpenSpec.ofChange causalProofSpec)

/-- ITS FALSE NEIGHBOUR: 'it returns false'. Refute it at one input. -/
def causalProofWrong : ChangeSpec := { name := "causalProof", fn := fun _ => fun
  | [d] => { results := [.lit (.bool false)], args := [d] }
  | _ => none }
def CausalProofWrongFalsely : Prop := causalProofRow.holds Try.pinned (OpenSpec.ofChange causalProofWrong)

/-- 'simprooflaw23.CausalTimes': WHATEVER THE INPUT: true; the input reads as it did. -/
def causalTimesSpec : ChangeSpec := { name := "causalTimes", fn := fun _ => fun
  | [d] => { results := [.lit (.bool true)], args := [d] }
  | _ => none }
def causalTimesRow : OpenClaim := { program := "ytmnmakhpjgjdaaa", sum := "3bc8e0036bf1de91c4d6e2abb9bb6225d7292f56ac9fee158d61c4b0bb30ea42", func := "simproof/simprooflaw23.CausalTimes", spec := "causalTimes", unfollowed := true, recurses := true, plainKeys := false, apart := false }
def CausalTimesSaid : Prop := causalTimesRow.holds Try.pinned (OpenSpec.ofChange causalTimesSpec)

/-- ITS FALSE NEIGHBOUR: 'it returns false'. Refute it at one input. -/
def causalTimesWrong : ChangeSpec := { name := "causalTimes", fn := fun _ => fun
  | [d] => { results := [.lit (.bool false)], args := [d] }
  | _ => none }
def CausalTimesWrongFalsely : Prop := causalTimesRow.holds Try.pinned (OpenSpec.ofChange causalTimesWrong)

/-- 'simprooflaw23.CausalRemoves': WHATEVER THE INPUT: true; the input reads as it did. -/
def causalRemovesSpec : ChangeSpec := { name := "causalRemoves", fn := fun _ => fun
  | [d1, d2] => { results := [.lit (.bool true)], args := [d1, d2] }
  | _ => none }
def causalRemovesRow : OpenClaim := { program := "ytmnmakhpjgjdaaa", sum := "3bc8e0036bf1de91c4d6e2abb9bb6225d7292f56ac9fee158d61c4b0bb30ea42", func := "simproof/simprooflaw23.CausalRemoves", spec := "causalRemoves", unfollowed := true, recurses := true, plainKeys := false, apart := false }
def CausalRemovesSaid : Prop := causalRemovesRow.holds Try.pinned (OpenSpec.ofChange causalRemovesSpec)

/-- ITS FALSE NEIGHBOUR: 'it returns false'. Refute it at one input. -/
def causalRemovesWrong : ChangeSpec := { name := "causalRemoves", fn := fun _ => fun
  | [d1, d2] => { results := [.lit (.bool false)], args := [d1, d2] }
  | _ => none }
def CausalRemovesWrongFalsely : Prop := causalRemovesRow.holds Try.pinned (OpenSpec.ofChange causalRemovesWrong)

/- THE SECOND FORM. 'bulk': how many values and letters a reading holds, each counted each time it is reached (what is shared counts as often as it is met; a slice's spare places count too). A statement '..UptoSaid' is the law's where the arguments, and the package variables that the reading takes, are together of bulk at most 1048576: NARROWER than '..Said'. Prove '..Said' where nothing that the law and all that it calls make is longer than what came in: it says more and counts as full. Else prove '..UptoSaid'. A law counts once. -/
mutual
def uptoBulk {H : Type} : DataW H → Nat
  | .lit (.string bytes) => bytes.length + 1
  | .lit _ => 1
  | .nil => 1
  | .ptr d => uptoBulk d + 1
  | .slice elems spare => uptoBulkAll elems + uptoBulkAll spare + 1
  | .agg parts => uptoBulkAll parts + 1
  | .iface _ d => uptoBulk d + 1
  | .map entries => uptoBulkEntries entries + 1
  | .held _ => 1
def uptoBulkAll {H : Type} : List (DataW H) → Nat
  | [] => 0
  | d :: r => uptoBulk d + uptoBulkAll r
def uptoBulkEntries {H : Type} : List (Lit × DataW H) → Nat
  | [] => 0
  | x :: r => uptoBulkEntry x + uptoBulkEntries r
def uptoBulkEntry {H : Type} : Lit × DataW H → Nat
  | (.string bytes, d) => bytes.length + uptoBulk d + 1
  | (_, d) => uptoBulk d + 1
 end
def uptoSmall : (H : Type) → List (DataW H) → Bool := fun _ ds => decide (uptoBulkAll ds ≤ 1048576)
def OpenSpec.upto (s : _root_.Go.ChangeSpec) : _root_.Go.OpenSpec := { _root_.Go.OpenSpec.ofChange s with cond := some uptoSmall }

/-- 'simprooflaw23.CausalVerdicts', WHERE WHAT IT READS IS OF BULK AT MOST 1048576: true; the input reads as it did. -/
def causalVerdictsUptoRow : OpenClaim := { program := "ytmnmakhpjgjdaaa", sum := "3bc8e0036bf1de91c4d6e2abb9bb6225d7292f56ac9fee158d61c4b0bb30ea42", func := "simproof/simprooflaw23.CausalVerdicts", spec := "causalVerdicts", unfollowed := true, recurses := true, plainKeys := false, apart := false, narrowed := true }
def CausalVerdictsUptoSaid : Prop := causalVerdictsUptoRow.holds Try.pinned (OpenSpec.upto causalVerdictsSpec)

/-- 'simprooflaw23.CausalDomain', WHERE WHAT IT READS IS OF BULK AT MOST 1048576: true; the input reads as it did. -/
def causalDomainUptoRow : OpenClaim := { program := "ytmnmakhpjgjdaaa", sum := "3bc8e0036bf1de91c4d6e2abb9bb6225d7292f56ac9fee158d61c4b0bb30ea42", func := "simproof/simprooflaw23.CausalDomain", spec := "causalDomain", unfollowed := true, recurses := true, plainKeys := false, apart := false, narrowed := true }
def CausalDomainUptoSaid : Prop := causalDomainUptoRow.holds Try.pinned (OpenSpec.upto causalDomainSpec)

/-- 'simprooflaw23.CausalConsistent', WHERE WHAT IT READS IS OF BULK AT MOST 1048576: true; the input reads as it did. -/
def causalConsistentUptoRow : OpenClaim := { program := "ytmnmakhpjgjdaaa", sum := "3bc8e0036bf1de91c4d6e2abb9bb6225d7292f56ac9fee158d61c4b0bb30ea42", func := "simproof/simprooflaw23.CausalConsistent", spec := "causalConsistent", unfollowed := true, recurses := true, plainKeys := false, apart := false, narrowed := true }
def CausalConsistentUptoSaid : Prop := causalConsistentUptoRow.holds Try.pinned (OpenSpec.upto causalConsistentSpec)

/-- 'simprooflaw23.CausalImplies', WHERE WHAT IT READS IS OF BULK AT MOST 1048576: true; the input reads as it did. -/
def causalImpliesUptoRow : OpenClaim := { program := "ytmnmakhpjgjdaaa", sum := "3bc8e0036bf1de91c4d6e2abb9bb6225d7292f56ac9fee158d61c4b0bb30ea42", func := "simproof/simprooflaw23.CausalImplies", spec := "causalImplies", unfollowed := true, recurses := true, plainKeys := false, apart := false, narrowed := true }
def CausalImpliesUptoSaid : Prop := causalImpliesUptoRow.holds Try.pinned (OpenSpec.upto causalImpliesSpec)

/-- 'simprooflaw23.CausalProof', WHERE WHAT IT READS IS OF BULK AT MOST 1048576: true; the input reads as it did. -/
def causalProofUptoRow : OpenClaim := { program := "ytmnmakhpjgjdaaa", sum := "3bc8e0036bf1de91c4d6e2abb9bb6225d7292f56ac9fee158d61c4b0bb30ea42", func := "simproof/simprooflaw23.CausalProof", spec := "causalProof", unfollowed := true, recurses := true, plainKeys := false, apart := false, narrowed := true }
def CausalProofUptoSaid : Prop := causalProofUptoRow.holds Try.pinned (OpenSpec.upto causalProofSpec)

/-- 'simprooflaw23.CausalTimes', WHERE WHAT IT READS IS OF BULK AT MOST 1048576: true; the input reads as it did. -/
def causalTimesUptoRow : OpenClaim := { program := "ytmnmakhpjgjdaaa", sum := "3bc8e0036bf1de91c4d6e2abb9bb6225d7292f56ac9fee158d61c4b0bb30ea42", func := "simproof/simprooflaw23.CausalTimes", spec := "causalTimes", unfollowed := true, recurses := true, plainKeys := false, apart := false, narrowed := true }
def CausalTimesUptoSaid : Prop := causalTimesUptoRow.holds Try.pinned (OpenSpec.upto causalTimesSpec)

/-- 'simprooflaw23.CausalRemoves', WHERE WHAT IT READS IS OF BULK AT MOST 1048576: true; the input reads as it did. -/
def causalRemovesUptoRow : OpenClaim := { program := "ytmnmakhpjgjdaaa", sum := "3bc8e0036bf1de91c4d6e2abb9bb6225d7292f56ac9fee158d61c4b0bb30ea42", func := "simproof/simprooflaw23.CausalRemoves", spec := "causalRemoves", unfollowed := true, recurses := true, plainKeys := false, apart := false, narrowed := true }
def CausalRemovesUptoSaid : Prop := causalRemovesUptoRow.holds Try.pinned (OpenSpec.upto causalRemovesSpec)

end Rows
end Go.Proofs.Ytmnmakhpjgjdaaa
