/-
  No cell of these rows narrows 'for every input' (looked for: loops, veiled, ifaces, maps, wideKeys, modest, calm, conditions, laid).
  DERIVED. THE GIVEN ROWS OF THIS SEAT. 10 by the template 'for every input the law returns true; each argument reads behind the call as it read before'; 0 by the template 'total and deterministic' (their statements: YtbeebjdnapkhhaaTotals.lean).
  GIVEN WITH THE SEED: the statements are not yours to turn. If you find one false, say at which input.
  Laid BY PROGRAM, IN A SANDBOX (cutbox-rows.mjs): the forced cells as the released guide's own fill.sh prints them over the translation e25bfbac848c6c05… (all of the seat's roots in one cut). By AI agents, Wed Nov 11 2026. No macro, syntax, notation, axiom, sorry.
-/
import Derived.Test.YtbeebjdnapkhhaaChecked
import GoSem.Claim
import GoSem.ClaimJoined
import GoSem.ClaimMapViews
import Derived.JoinedTies
import Derived.KernelRfl
namespace Go.Proofs.Ytbeebjdnapkhhaa
/- THE CELL 'sum', in the pinned program and in every row, IS THE sha256 OF THE DUMP (.gsa) THAT YtbeebjdnapkhhaaProg.lean LOADS. Nothing in Lean hashes anything: it is a label: what it is worth is what the hold of that sum in a sandbox is worth. -/
noncomputable def Try.pinned : Pinned := { name := "ytbeebjdnapkhhaa", sum := "e25bfbac848c6c05397606f1ad18db8eb8363f214dc8c06d41bcc1cb41b2e2e0", checked := Try.checked }
namespace Rows
def none {H : Type} : Left H := { results := [], args := [] }

/-- 'simprooflaw21.LinearChecks': WHATEVER THE INPUT: true; the input reads as it did. -/
def linearChecksSpec : ChangeSpec := { name := "linearChecks", fn := fun _ => fun
  | [d1, d2, d3] => { results := [.lit (.bool true)], args := [d1, d2, d3] }
  | _ => none }
def linearChecksRow : OpenClaim := { program := "ytbeebjdnapkhhaa", sum := "e25bfbac848c6c05397606f1ad18db8eb8363f214dc8c06d41bcc1cb41b2e2e0", func := "simproof/simprooflaw21.LinearChecks", spec := "linearChecks", unfollowed := true, recurses := true, plainKeys := false, apart := false }
def LinearChecksSaid : Prop := linearChecksRow.holds Try.pinned (OpenSpec.ofChange linearChecksSpec)

/-- ITS FALSE NEIGHBOUR: 'it returns false'. Refute it at one input. -/
def linearChecksWrong : ChangeSpec := { name := "linearChecks", fn := fun _ => fun
  | [d1, d2, d3] => { results := [.lit (.bool false)], args := [d1, d2, d3] }
  | _ => none }
def LinearChecksWrongFalsely : Prop := linearChecksRow.holds Try.pinned (OpenSpec.ofChange linearChecksWrong)

/-- 'simprooflaw21.LinearZones': WHATEVER THE INPUT: true; the input reads as it did. -/
def linearZonesSpec : ChangeSpec := { name := "linearZones", fn := fun _ => fun
  | [d1, d2, d3] => { results := [.lit (.bool true)], args := [d1, d2, d3] }
  | _ => none }
def linearZonesRow : OpenClaim := { program := "ytbeebjdnapkhhaa", sum := "e25bfbac848c6c05397606f1ad18db8eb8363f214dc8c06d41bcc1cb41b2e2e0", func := "simproof/simprooflaw21.LinearZones", spec := "linearZones", unfollowed := true, recurses := true, plainKeys := false, apart := false }
def LinearZonesSaid : Prop := linearZonesRow.holds Try.pinned (OpenSpec.ofChange linearZonesSpec)

/-- ITS FALSE NEIGHBOUR: 'it returns false'. Refute it at one input. -/
def linearZonesWrong : ChangeSpec := { name := "linearZones", fn := fun _ => fun
  | [d1, d2, d3] => { results := [.lit (.bool false)], args := [d1, d2, d3] }
  | _ => none }
def LinearZonesWrongFalsely : Prop := linearZonesRow.holds Try.pinned (OpenSpec.ofChange linearZonesWrong)

/-- 'simprooflaw21.LinearExact': WHATEVER THE INPUT: true; the input reads as it did. -/
def linearExactSpec : ChangeSpec := { name := "linearExact", fn := fun _ => fun
  | [d1, d2, d3] => { results := [.lit (.bool true)], args := [d1, d2, d3] }
  | _ => none }
def linearExactRow : OpenClaim := { program := "ytbeebjdnapkhhaa", sum := "e25bfbac848c6c05397606f1ad18db8eb8363f214dc8c06d41bcc1cb41b2e2e0", func := "simproof/simprooflaw21.LinearExact", spec := "linearExact", unfollowed := true, recurses := true, plainKeys := false, apart := false }
def LinearExactSaid : Prop := linearExactRow.holds Try.pinned (OpenSpec.ofChange linearExactSpec)

/-- ITS FALSE NEIGHBOUR: 'it returns false'. Refute it at one input. -/
def linearExactWrong : ChangeSpec := { name := "linearExact", fn := fun _ => fun
  | [d1, d2, d3] => { results := [.lit (.bool false)], args := [d1, d2, d3] }
  | _ => none }
def LinearExactWrongFalsely : Prop := linearExactRow.holds Try.pinned (OpenSpec.ofChange linearExactWrong)

/-- 'simprooflaw21.LinearLocal': WHATEVER THE INPUT: true; the input reads as it did. -/
def linearLocalSpec : ChangeSpec := { name := "linearLocal", fn := fun _ => fun
  | [d1, d2, d3] => { results := [.lit (.bool true)], args := [d1, d2, d3] }
  | _ => none }
def linearLocalRow : OpenClaim := { program := "ytbeebjdnapkhhaa", sum := "e25bfbac848c6c05397606f1ad18db8eb8363f214dc8c06d41bcc1cb41b2e2e0", func := "simproof/simprooflaw21.LinearLocal", spec := "linearLocal", unfollowed := true, recurses := true, plainKeys := false, apart := false }
def LinearLocalSaid : Prop := linearLocalRow.holds Try.pinned (OpenSpec.ofChange linearLocalSpec)

/-- ITS FALSE NEIGHBOUR: 'it returns false'. Refute it at one input. -/
def linearLocalWrong : ChangeSpec := { name := "linearLocal", fn := fun _ => fun
  | [d1, d2, d3] => { results := [.lit (.bool false)], args := [d1, d2, d3] }
  | _ => none }
def LinearLocalWrongFalsely : Prop := linearLocalRow.holds Try.pinned (OpenSpec.ofChange linearLocalWrong)

/-- 'simprooflaw21.LinearIncluded': WHATEVER THE INPUT: true; the input reads as it did. -/
def linearIncludedSpec : ChangeSpec := { name := "linearIncluded", fn := fun _ => fun
  | [d1, d2, d3] => { results := [.lit (.bool true)], args := [d1, d2, d3] }
  | _ => none }
def linearIncludedRow : OpenClaim := { program := "ytbeebjdnapkhhaa", sum := "e25bfbac848c6c05397606f1ad18db8eb8363f214dc8c06d41bcc1cb41b2e2e0", func := "simproof/simprooflaw21.LinearIncluded", spec := "linearIncluded", unfollowed := true, recurses := true, plainKeys := false, apart := false }
def LinearIncludedSaid : Prop := linearIncludedRow.holds Try.pinned (OpenSpec.ofChange linearIncludedSpec)

/-- ITS FALSE NEIGHBOUR: 'it returns false'. Refute it at one input. -/
def linearIncludedWrong : ChangeSpec := { name := "linearIncluded", fn := fun _ => fun
  | [d1, d2, d3] => { results := [.lit (.bool false)], args := [d1, d2, d3] }
  | _ => none }
def LinearIncludedWrongFalsely : Prop := linearIncludedRow.holds Try.pinned (OpenSpec.ofChange linearIncludedWrong)

/-- 'simprooflaw21.LinearSequential': WHATEVER THE INPUT: true; the input reads as it did. -/
def linearSequentialSpec : ChangeSpec := { name := "linearSequential", fn := fun _ => fun
  | [d] => { results := [.lit (.bool true)], args := [d] }
  | _ => none }
def linearSequentialRow : OpenClaim := { program := "ytbeebjdnapkhhaa", sum := "e25bfbac848c6c05397606f1ad18db8eb8363f214dc8c06d41bcc1cb41b2e2e0", func := "simproof/simprooflaw21.LinearSequential", spec := "linearSequential", unfollowed := true, recurses := true, plainKeys := false, apart := false }
def LinearSequentialSaid : Prop := linearSequentialRow.holds Try.pinned (OpenSpec.ofChange linearSequentialSpec)

/-- ITS FALSE NEIGHBOUR: 'it returns false'. Refute it at one input. -/
def linearSequentialWrong : ChangeSpec := { name := "linearSequential", fn := fun _ => fun
  | [d] => { results := [.lit (.bool false)], args := [d] }
  | _ => none }
def LinearSequentialWrongFalsely : Prop := linearSequentialRow.holds Try.pinned (OpenSpec.ofChange linearSequentialWrong)

/-- 'simprooflaw21.LinearErrors': WHATEVER THE INPUT: true; the input reads as it did. -/
def linearErrorsSpec : ChangeSpec := { name := "linearErrors", fn := fun _ => fun
  | [d1, d2, d3, d4] => { results := [.lit (.bool true)], args := [d1, d2, d3, d4] }
  | _ => none }
def linearErrorsRow : OpenClaim := { program := "ytbeebjdnapkhhaa", sum := "e25bfbac848c6c05397606f1ad18db8eb8363f214dc8c06d41bcc1cb41b2e2e0", func := "simproof/simprooflaw21.LinearErrors", spec := "linearErrors", unfollowed := true, recurses := true, plainKeys := false, apart := false }
def LinearErrorsSaid : Prop := linearErrorsRow.holds Try.pinned (OpenSpec.ofChange linearErrorsSpec)

/-- ITS FALSE NEIGHBOUR: 'it returns false'. Refute it at one input. -/
def linearErrorsWrong : ChangeSpec := { name := "linearErrors", fn := fun _ => fun
  | [d1, d2, d3, d4] => { results := [.lit (.bool false)], args := [d1, d2, d3, d4] }
  | _ => none }
def LinearErrorsWrongFalsely : Prop := linearErrorsRow.holds Try.pinned (OpenSpec.ofChange linearErrorsWrong)

/-- 'simprooflaw21.LinearExtends': WHATEVER THE INPUT: true; the input reads as it did. -/
def linearExtendsSpec : ChangeSpec := { name := "linearExtends", fn := fun _ => fun
  | [d1, d2] => { results := [.lit (.bool true)], args := [d1, d2] }
  | _ => none }
def linearExtendsRow : OpenClaim := { program := "ytbeebjdnapkhhaa", sum := "e25bfbac848c6c05397606f1ad18db8eb8363f214dc8c06d41bcc1cb41b2e2e0", func := "simproof/simprooflaw21.LinearExtends", spec := "linearExtends", unfollowed := true, recurses := true, plainKeys := false, apart := false }
def LinearExtendsSaid : Prop := linearExtendsRow.holds Try.pinned (OpenSpec.ofChange linearExtendsSpec)

/-- ITS FALSE NEIGHBOUR: 'it returns false'. Refute it at one input. -/
def linearExtendsWrong : ChangeSpec := { name := "linearExtends", fn := fun _ => fun
  | [d1, d2] => { results := [.lit (.bool false)], args := [d1, d2] }
  | _ => none }
def LinearExtendsWrongFalsely : Prop := linearExtendsRow.holds Try.pinned (OpenSpec.ofChange linearExtendsWrong)

/-- 'simprooflaw21.LinearOrders': WHATEVER THE INPUT: true; the input reads as it did. -/
def linearOrdersSpec : ChangeSpec := { name := "linearOrders", fn := fun _ => fun
  | [d1, d2] => { results := [.lit (.bool true)], args := [d1, d2] }
  | _ => none }
def linearOrdersRow : OpenClaim := { program := "ytbeebjdnapkhhaa", sum := "e25bfbac848c6c05397606f1ad18db8eb8363f214dc8c06d41bcc1cb41b2e2e0", func := "simproof/simprooflaw21.LinearOrders", spec := "linearOrders", unfollowed := true, recurses := true, plainKeys := false, apart := false }
def LinearOrdersSaid : Prop := linearOrdersRow.holds Try.pinned (OpenSpec.ofChange linearOrdersSpec)

/-- ITS FALSE NEIGHBOUR: 'it returns false'. Refute it at one input. -/
def linearOrdersWrong : ChangeSpec := { name := "linearOrders", fn := fun _ => fun
  | [d1, d2] => { results := [.lit (.bool false)], args := [d1, d2] }
  | _ => none }
def LinearOrdersWrongFalsely : Prop := linearOrdersRow.holds Try.pinned (OpenSpec.ofChange linearOrdersWrong)

/-- 'simprooflaw21.LinearIsOrder': WHATEVER THE INPUT: true; the input reads as it did. -/
def linearIsOrderSpec : ChangeSpec := { name := "linearIsOrder", fn := fun _ => fun
  | [d1, d2, d3, d4, d5] => { results := [.lit (.bool true)], args := [d1, d2, d3, d4, d5] }
  | _ => none }
def linearIsOrderRow : OpenClaim := { program := "ytbeebjdnapkhhaa", sum := "e25bfbac848c6c05397606f1ad18db8eb8363f214dc8c06d41bcc1cb41b2e2e0", func := "simproof/simprooflaw21.LinearIsOrder", spec := "linearIsOrder", unfollowed := true, recurses := true, plainKeys := false, apart := false }
def LinearIsOrderSaid : Prop := linearIsOrderRow.holds Try.pinned (OpenSpec.ofChange linearIsOrderSpec)

/-- ITS FALSE NEIGHBOUR: 'it returns false'. Refute it at one input. -/
def linearIsOrderWrong : ChangeSpec := { name := "linearIsOrder", fn := fun _ => fun
  | [d1, d2, d3, d4, d5] => { results := [.lit (.bool false)], args := [d1, d2, d3, d4, d5] }
  | _ => none }
def LinearIsOrderWrongFalsely : Prop := linearIsOrderRow.holds Try.pinned (OpenSpec.ofChange linearIsOrderWrong)

/- THE SECOND FORM. 'bulk': how many values and letters a reading holds, each counted each time it is reached (what is shared counts as often as it is met; a slice's spare places count too). A statement '..UptoSaid' is the law's where the arguments, and the package variables that the reading takes, are together of bulk at most 1048576: NARROWER than '..Said'. Prove '..Said' where nothing that the law and all that it calls make is longer than what came in: it says more and counts as full. Else prove '..UptoSaid'. A law counts once. -/
mutual
def uptoBulk {H : Type} : DataW H → Nat
  | .lit (.string bytes) => bytes.length + 1
  | .lit _ => 1
  | .nil => 1
  | .ptr d => uptoBulk d + 1
  | .slice elems spare => uptoBulkAll elems + uptoBulkAll spare + 1
  | .agg parts => uptoBulkAll parts + 1
  | .iface _ d => uptoBulk d + 1
  | .map entries => uptoBulkEntries entries + 1
  | .held _ => 1
def uptoBulkAll {H : Type} : List (DataW H) → Nat
  | [] => 0
  | d :: r => uptoBulk d + uptoBulkAll r
def uptoBulkEntries {H : Type} : List (Lit × DataW H) → Nat
  | [] => 0
  | x :: r => uptoBulkEntry x + uptoBulkEntries r
def uptoBulkEntry {H : Type} : Lit × DataW H → Nat
  | (.string bytes, d) => bytes.length + uptoBulk d + 1
  | (_, d) => uptoBulk d + 1
 end
def uptoSmall : (H : Type) → List (DataW H) → Bool := fun _ ds => decide (uptoBulkAll ds ≤ 1048576)
def OpenSpec.upto (s : _root_.Go.ChangeSpec) : _root_.Go.OpenSpec := { _root_.Go.OpenSpec.ofChange s with cond := some uptoSmall }

/-- 'simprooflaw21.LinearChecks', WHERE WHAT IT READS IS OF BULK AT MOST 1048576: true; the input reads as it did. -/
def linearChecksUptoRow : OpenClaim := { program := "ytbeebjdnapkhhaa", sum := "e25bfbac848c6c05397606f1ad18db8eb8363f214dc8c06d41bcc1cb41b2e2e0", func := "simproof/simprooflaw21.LinearChecks", spec := "linearChecks", unfollowed := true, recurses := true, plainKeys := false, apart := false, narrowed := true }
def LinearChecksUptoSaid : Prop := linearChecksUptoRow.holds Try.pinned (OpenSpec.upto linearChecksSpec)

/-- 'simprooflaw21.LinearZones', WHERE WHAT IT READS IS OF BULK AT MOST 1048576: true; the input reads as it did. -/
def linearZonesUptoRow : OpenClaim := { program := "ytbeebjdnapkhhaa", sum := "e25bfbac848c6c05397606f1ad18db8eb8363f214dc8c06d41bcc1cb41b2e2e0", func := "simproof/simprooflaw21.LinearZones", spec := "linearZones", unfollowed := true, recurses := true, plainKeys := false, apart := false, narrowed := true }
def LinearZonesUptoSaid : Prop := linearZonesUptoRow.holds Try.pinned (OpenSpec.upto linearZonesSpec)

/-- 'simprooflaw21.LinearExact', WHERE WHAT IT READS IS OF BULK AT MOST 1048576: true; the input reads as it did. -/
def linearExactUptoRow : OpenClaim := { program := "ytbeebjdnapkhhaa", sum := "e25bfbac848c6c05397606f1ad18db8eb8363f214dc8c06d41bcc1cb41b2e2e0", func := "simproof/simprooflaw21.LinearExact", spec := "linearExact", unfollowed := true, recurses := true, plainKeys := false, apart := false, narrowed := true }
def LinearExactUptoSaid : Prop := linearExactUptoRow.holds Try.pinned (OpenSpec.upto linearExactSpec)

/-- 'simprooflaw21.LinearLocal', WHERE WHAT IT READS IS OF BULK AT MOST 1048576: true; the input reads as it did. -/
def linearLocalUptoRow : OpenClaim := { program := "ytbeebjdnapkhhaa", sum := "e25bfbac848c6c05397606f1ad18db8eb8363f214dc8c06d41bcc1cb41b2e2e0", func := "simproof/simprooflaw21.LinearLocal", spec := "linearLocal", unfollowed := true, recurses := true, plainKeys := false, apart := false, narrowed := true }
def LinearLocalUptoSaid : Prop := linearLocalUptoRow.holds Try.pinned (OpenSpec.upto linearLocalSpec)

/-- 'simprooflaw21.LinearIncluded', WHERE WHAT IT READS IS OF BULK AT MOST 1048576: true; the input reads as it did. -/
def linearIncludedUptoRow : OpenClaim := { program := "ytbeebjdnapkhhaa", sum := "e25bfbac848c6c05397606f1ad18db8eb8363f214dc8c06d41bcc1cb41b2e2e0", func := "simproof/simprooflaw21.LinearIncluded", spec := "linearIncluded", unfollowed := true, recurses := true, plainKeys := false, apart := false, narrowed := true }
def LinearIncludedUptoSaid : Prop := linearIncludedUptoRow.holds Try.pinned (OpenSpec.upto linearIncludedSpec)

/-- 'simprooflaw21.LinearSequential', WHERE WHAT IT READS IS OF BULK AT MOST 1048576: true; the input reads as it did. -/
def linearSequentialUptoRow : OpenClaim := { program := "ytbeebjdnapkhhaa", sum := "e25bfbac848c6c05397606f1ad18db8eb8363f214dc8c06d41bcc1cb41b2e2e0", func := "simproof/simprooflaw21.LinearSequential", spec := "linearSequential", unfollowed := true, recurses := true, plainKeys := false, apart := false, narrowed := true }
def LinearSequentialUptoSaid : Prop := linearSequentialUptoRow.holds Try.pinned (OpenSpec.upto linearSequentialSpec)

/-- 'simprooflaw21.LinearErrors', WHERE WHAT IT READS IS OF BULK AT MOST 1048576: true; the input reads as it did. -/
def linearErrorsUptoRow : OpenClaim := { program := "ytbeebjdnapkhhaa", sum := "e25bfbac848c6c05397606f1ad18db8eb8363f214dc8c06d41bcc1cb41b2e2e0", func := "simproof/simprooflaw21.LinearErrors", spec := "linearErrors", unfollowed := true, recurses := true, plainKeys := false, apart := false, narrowed := true }
def LinearErrorsUptoSaid : Prop := linearErrorsUptoRow.holds Try.pinned (OpenSpec.upto linearErrorsSpec)

/-- 'simprooflaw21.LinearExtends', WHERE WHAT IT READS IS OF BULK AT MOST 1048576: true; the input reads as it did. -/
def linearExtendsUptoRow : OpenClaim := { program := "ytbeebjdnapkhhaa", sum := "e25bfbac848c6c05397606f1ad18db8eb8363f214dc8c06d41bcc1cb41b2e2e0", func := "simproof/simprooflaw21.LinearExtends", spec := "linearExtends", unfollowed := true, recurses := true, plainKeys := false, apart := false, narrowed := true }
def LinearExtendsUptoSaid : Prop := linearExtendsUptoRow.holds Try.pinned (OpenSpec.upto linearExtendsSpec)

/-- 'simprooflaw21.LinearOrders', WHERE WHAT IT READS IS OF BULK AT MOST 1048576: true; the input reads as it did. -/
def linearOrdersUptoRow : OpenClaim := { program := "ytbeebjdnapkhhaa", sum := "e25bfbac848c6c05397606f1ad18db8eb8363f214dc8c06d41bcc1cb41b2e2e0", func := "simproof/simprooflaw21.LinearOrders", spec := "linearOrders", unfollowed := true, recurses := true, plainKeys := false, apart := false, narrowed := true }
def LinearOrdersUptoSaid : Prop := linearOrdersUptoRow.holds Try.pinned (OpenSpec.upto linearOrdersSpec)

/-- 'simprooflaw21.LinearIsOrder', WHERE WHAT IT READS IS OF BULK AT MOST 1048576: true; the input reads as it did. -/
def linearIsOrderUptoRow : OpenClaim := { program := "ytbeebjdnapkhhaa", sum := "e25bfbac848c6c05397606f1ad18db8eb8363f214dc8c06d41bcc1cb41b2e2e0", func := "simproof/simprooflaw21.LinearIsOrder", spec := "linearIsOrder", unfollowed := true, recurses := true, plainKeys := false, apart := false, narrowed := true }
def LinearIsOrderUptoSaid : Prop := linearIsOrderUptoRow.holds Try.pinned (OpenSpec.upto linearIsOrderSpec)

end Rows
end Go.Proofs.Ytbeebjdnapkhhaa
